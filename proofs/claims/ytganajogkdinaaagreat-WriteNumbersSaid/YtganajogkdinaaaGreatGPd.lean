import Derived.Test.YtganajogkdinaaaGreatGPc
import Derived.KernelRfl
set_option linter.all false
namespace Go.R4
open Go.Proofs Go.Ev
set_option maxRecDepth 100000
def aq.f:Nat->LIn->Int->Int->List ah->List ah->Option (Bool×Int×List ah×List ah)
 | 0,_,_,_,_,_=>none
 | k+1,code1,i2,h3,h4,h5=>((at? code1 i2).bind λe56=>(segB ((bj.f k e56.Op).bind λr81=>(if r81=true then(if aad (h4.length+1) 24 then(some (.inl ((imax h3 (iadd .i64 (h4.length:Int) 1)),(h4++([(ah.mk i2 (-1:Int) (-1:Int))]:List ah)),h5)))else none)else(if e56.Op=5 then(if(h4.length:Int)=0 then(some (.inr (false,h3,h4,h5)))else(if(0:Int)<=(isub .i64 (h4.length:Int) 1)/\(isub .i64 (h4.length:Int) 1)<(h4.length:Int)then(h4[((isub .i64 (h4.length:Int) 1)).toNat]?.bind λe89=>((at? code1 e89.At).bind λe91=>(if e91.Op=4 then(if(0:Int)<=(isub .i64 (h4.length:Int) 1)/\(isub .i64 (h4.length:Int) 1)<(h4.length:Int)then(h4[((isub .i64 (h4.length:Int) 1)).toNat]?.bind λe93=>(if e93.Else=(-1)then(if(0:Int)<=(isub .i64 (h4.length:Int) 1)/\(isub .i64 (h4.length:Int) 1)<(h4.length:Int)then(h4[((isub .i64 (h4.length:Int) 1)).toNat]?.bind λe95=>(some (.inl (h3,(h4.set (((isub .i64 (h4.length:Int) 1)).toNat) (ah.mk e95.At i2 e95.End)),h5))))else none)else(some (.inr (false,h3,h4,h5)))))else none)else(some (.inr (false,h3,h4,h5))))))else none))else(segB (if e56.Op=11 then(some (.inl (decide ((h4.length:Int)>0))))else(some (.inl false))) (λx97=>(if x97=true then(if(0:Int)<=(isub .i64 (h4.length:Int) 1)/\(isub .i64 (h4.length:Int) 1)<(h4.length:Int)then(h4[((isub .i64 (h4.length:Int) 1)).toNat]?.bind λe99=>(if(0:Int)<=(isub .i64 (h4.length:Int) 1)/\(0:Nat)<=((isub .i64 (h4.length:Int) 1)).toNat/\(((isub .i64 (h4.length:Int) 1)).toNat:Nat)<=h4.length then(if aad (h5.length+1) 24 then(if(((isub .i64 (h4.length:Int) 1)).toNat-0)<=h4.length then(some (.inl (h3,(List.take (((isub .i64 (h4.length:Int) 1)).toNat-0) h4),(h5++([(ah.mk e99.At e99.Else i2)]:List ah)))))else none)else none)else none))else none)else(if e56.Op=11 then(some (.inr ((decide (i2=(isub .i64 (code1.length:Int) 1))),h3,h4,h5)))else(some (.inl (h3,h4,h5)))))))))) (λ(h78,h79,h80)=>(some ((decide (i2<(isub .i64 (code1.length:Int) 1))),h78,h79,h80)))))
section
variable(k:Nat)(code1:LIn)(i2 h3:Int)(h4:List ah)(h5:List ah)
noncomputable def aq.s:Sc (Bool×Int×List ah×List ah):=(.op 1 2 (Rd.el ag.e code1 i2) λv57=>(.seg (O:=Int×List ah×List ah) 15 (.cl 2 1 (bj.ok k v57.Op) λv82=>(.br 2 2 20 v82 (.ch 3 8 (aad (h4.length+1) 24) (aaa 24 h4.length ([(ah.mk i2 (-1:Int) (-1:Int))]:List ah) (mX ah.e ([(ah.mk i2 (-1:Int) (-1:Int))]:List ah))) (.rS 3 8 31 (aac 4 3 h4 ([(ah.mk i2 (-1:Int) (-1:Int))]:List ah) (mX ah.e ([(ah.mk i2 (-1:Int) (-1:Int))]:List ah))) (.rB 3 8 4 (aab 3 ah.e h4 ([(ah.mk i2 (-1:Int) (-1:Int))]:List ah) (mX ah.e ([(ah.mk i2 (-1:Int) (-1:Int))]:List ah))) (.ret (.inl ((imax h3 (iadd .i64 (h4.length:Int) 1)),(h4++([(ah.mk i2 (-1:Int) (-1:Int))]:List ah)),h5)))))) (.bq 5 2 44 false (v57.Op=5) (.bq 6 2 49 false ((h4.length:Int)=0) (.ret (.inr (false,h3,h4,h5))) (.ck 6 10 [(0:Int)<=(isub .i64 (h4.length:Int) 1),(isub .i64 (h4.length:Int) 1)<(h4.length:Int)] (.op 6 12 (Rd.ld 3 ah.e h4 (((isub .i64 (h4.length:Int) 1)).toNat)) λv90=>(.op 6 13 (Rd.el ag.e code1 v90.At) λv92=>(.bq 6 18 65 true (v92.Op=4) (.ck 6 25 [(0:Int)<=(isub .i64 (h4.length:Int) 1),(isub .i64 (h4.length:Int) 1)<(h4.length:Int)] (.op 6 27 (Rd.ld 3 ah.e h4 (((isub .i64 (h4.length:Int) 1)).toNat)) λv94=>(.bq 6 29 76 true (v94.Else=(-1)) (.ck 8 7 [(0:Int)<=(isub .i64 (h4.length:Int) 1),(isub .i64 (h4.length:Int) 1)<(h4.length:Int)] (.op 8 9 (Rd.ld 3 ah.e h4 (((isub .i64 (h4.length:Int) 1)).toNat)) λv96=>(.rB 8 9 1 (afw 3 ah.e h4 (((isub .i64 (h4.length:Int) 1)).toNat) (ah.mk v96.At i2 v96.End)) (.rS 8 9 18 (congrArg (λq=>A.c (.slw 1 3 q)) (abE h4 (((isub .i64 (h4.length:Int) 1)).toNat) (ah.mk v96.At i2 v96.End)).symm) (.rS 8 9 54 (congrArg (λq=>A.c (.slw 1 3 q)) (abE h4 (((isub .i64 (h4.length:Int) 1)).toNat) (ah.mk v96.At i2 v96.End)).symm) (.rS 8 9 69 (congrArg (λq=>A.c (.slw 1 3 q)) (abE h4 (((isub .i64 (h4.length:Int) 1)).toNat) (ah.mk v96.At i2 v96.End)).symm) (.rS 8 9 80 (congrArg (λq=>A.c (.slw 1 3 q)) (abE h4 (((isub .i64 (h4.length:Int) 1)).toNat) (ah.mk v96.At i2 v96.End)).symm) (.rB 8 9 0 (congrArg (λq=>Blk.mix 3 [[.slw 1 3 q,.slw 2 3 h5.length,.i h3]]) (abE h4 (((isub .i64 (h4.length:Int) 1)).toNat) (ah.mk v96.At i2 v96.End)).symm) (.ret (.inl (h3,(h4.set (((isub .i64 (h4.length:Int) 1)).toNat) (ah.mk v96.At i2 v96.End)),h5))))))))))) (.ret (.inr (false,h3,h4,h5)))))) (.ret (.inr (false,h3,h4,h5)))))))) (.seg (O:=Bool) 20000860000009 (.bq 9 2 89 false (v57.Op=11) (.ret (.inl (decide ((h4.length:Int)>0)))) (.ret (.inl false))) (λv98=>⟨mk 136 [(0,.p 0 3 0 0),(1,.l 5 ag.e code1),(2,.i i2),(7,.i v57.Op),(8,.i (h4.length:Int)),(86,.b v98)],[bm 3 [.slw 1 3 h4.length,.slw 2 3 h5.length,.i h3],bl 3 ah.e h4,bl 3 ah.e h5]⟩) λv98=>(.br 2000086 900 86 v98 (.ck 10 6 [(0:Int)<=(isub .i64 (h4.length:Int) 1),(isub .i64 (h4.length:Int) 1)<(h4.length:Int)] (.op 10 7 (Rd.ld 3 ah.e h4 (((isub .i64 (h4.length:Int) 1)).toNat)) λv100=>(.ck 12 8 [(0:Int)<=(isub .i64 (h4.length:Int) 1),(0:Nat)<=((isub .i64 (h4.length:Int) 1)).toNat,(((isub .i64 (h4.length:Int) 1)).toNat:Nat)<=h4.length] (.ch 12 15 (aad (h5.length+1) 24) (aaa 24 h5.length ([(ah.mk v100.At v100.Else i2)]:List ah) (mX ah.e ([(ah.mk v100.At v100.Else i2)]:List ah))) (.rS 12 15 118 (aac 5 3 h5 ([(ah.mk v100.At v100.Else i2)]:List ah) (mX ah.e ([(ah.mk v100.At v100.Else i2)]:List ah))) (.rB 12 15 5 (aab 3 ah.e h5 ([(ah.mk v100.At v100.Else i2)]:List ah) (mX ah.e ([(ah.mk v100.At v100.Else i2)]:List ah))) (.as 12 902 ((((isub .i64 (h4.length:Int) 1)).toNat-0)<=h4.length) λhc=>(.rB 12 902 6 (aaY 3 ah.e h4 (((isub .i64 (h4.length:Int) 1)).toNat-0)) (.rB 12 902 0 (congrArg (λq=>Blk.mix 3 [[.slw 6 3 q,.slw 5 3 ((h5++([(ah.mk v100.At v100.Else i2)]:List ah))).length,.i h3]]) (aa0 hc)) (.ret (.inl (h3,(List.take (((isub .i64 (h4.length:Int) 1)).toNat-0) h4),(h5++([(ah.mk v100.At v100.Else i2)]:List ah)))))))))))))) (.bq 13 2 123 false (v57.Op=11) (.rS 14 2 128 (lm ag.e code1) (.ret (.inr ((decide (i2=(isub .i64 (code1.length:Int) 1))),h3,h4,h5)))) (.ret (.inl (h3,h4,h5))))))))) (λv101=>⟨mk 136 [(0,.p 0 3 0 0),(1,.l 5 ag.e code1),(2,.i i2)],[bm 3 [.slw 3 3 v101.q1.length,.slw 4 3 v101.l2.length,.i v101.1],none,none,bl 3 ah.e v101.q1,bl 3 ah.e v101.l2]⟩) λv101=>(.rS 15 2 133 (lm ag.e code1) (.ret ((decide (i2<(isub .i64 (code1.length:Int) 1))),v101.1,v101.q1,v101.l2)))))
theorem aq.ok:op k 234 ([.p 0 3 0 0,.l 5 ag.e code1,.i i2],[bm 3 [.slw 1 3 h4.length,.slw 2 3 h5.length,.i h3],bl 3 ah.e h4,bl 3 ah.e h5]) (λv102=>(.b v102.1,[bm 3 [.slw 3 3 v102.q2.length,.slw 4 3 v102.l3.length,.i v102.q1],none,none,bl 3 ah.e v102.q2,bl 3 ah.e v102.l3])) (aq.f k code1 i2 h3 h4 h5):=by apply oP (aq.s · code1 i2 h3 h4 h5) k
end
def bt.b5(k:Nat)(code1:LIn):(Int×Int×List ah×List ah)->Option ((Int×Int×List ah×List ah)⊕((Int×List ah×List ah)⊕(Int×List ah×List ah))):=λ(x57,h58,h59,h60)=>(if x57<(code1.length:Int)then((aq.f k code1 x57 h58 h59 h60).bind λ(r83,r84,r85,r86)=>(if(!r83)=true then(some (.inr (.inr (r84,r85,r86))))else(some (.inl ((iadd .i64 x57 1),r84,r85,r86)))))else(some (.inr (.inl (h58,h59,h60)))))
def bt.f:Nat->LIn->Option (Int×List ah)
 | 0,_=>none
 | k+1,code1=>(if(code1.length:Int)=0 then(some ((12:Int),([]:List ah)))else(altB (loopS (bt.b5 k code1) k ((0:Int),(0:Int),([]:List ah),([]:List ah))) (λ(h71,h72,h73)=>(if h71>64 then(some ((26:Int),([]:List ah)))else((alS (λx=>(ah.t3 x).1) h73 k).bind λ_=>(some ((0:Int),(aaL (λx=>(ah.t3 x).1) h73)))))) (λ(h74,h75,h76)=>(some ((12:Int),([]:List ah))))))
section
variable(k:Nat)(code1:LIn)
noncomputable def bt.s:Sc (Int×List ah):=(.rS 2 1 9 (lm ag.e code1) (.bq 2 2 10 false ((code1.length:Int)=0) (.ret ((12:Int),([]:List ah))) (.rS 4 1 12 (lm ag.e code1) (.loop2 (V:=Int×Int×List ah×List ah) (O:=Int×List ah×List ah) (O2:=Int×List ah×List ah) 5 ((0:Int),(0:Int),([]:List ah),([]:List ah)) (λv77=>⟨mk 36 [(0,.l 5 ag.e code1),(4,.p 0 3 0 0),(12,.i (code1.length:Int)),(13,.i v77.1)],[bm 3 [.slw 1 3 v77.q2.length,.slw 2 3 v77.l3.length,.i v77.q1],bl 3 ah.e v77.q2,bl 3 ah.e v77.l3]⟩) (λv77=>(.bq 5 0 14 false (v77.1<(code1.length:Int)) (.cl 7 3 (aq.ok k code1 v77.1 v77.q1 v77.q2 v77.l3) λv87=>(.br 7 4 20 (!v87.1) (.ret (.inr (.inr (v87.q1,v87.q2,v87.l3)))) (.ret (.inl ((iadd .i64 v77.1 1),v87.q1,v87.q2,v87.l3))))) (.ret (.inr (.inl (v77.q1,v77.q2,v77.l3)))))) (.exit 0) (λv88=>⟨mk 36 [(4,.p 0 3 0 0)],[bm 3 [.slw 1 3 v88.q1.length,.slw 2 3 v88.l2.length,.i v88.1],bl 3 ah.e v88.q1,bl 3 ah.e v88.l2]⟩) (λv88=>(.bq 10 4 26 false (v88.1>64) (.ret ((26:Int),([]:List ah))) (.op 12 4 (Rd.call (alR (P:=Tryz.prog) (cfg:=cfg) (prim:=prims) k 235 236 3 ah.e ah.t3 (λ_=>rfl) v88.l2 rfl rfl)) λ_=>(.rS 12 4 30 (congrArg (λq=>A.c (.slw 2 3 q)) (aeh (λx=>(ah.t3 x).1) v88.l2).symm) (.rB 12 4 0 (congrArg (λq=>Blk.mix 3 [[.slw 1 3 v88.q1.length,.slw 2 3 q,.i v88.1]]) (aeh (λx=>(ah.t3 x).1) v88.l2).symm) (.ret ((0:Int),(aaL (λx=>(ah.t3 x).1) v88.l2)))))))) .ret (λv89=>⟨mk 36 [(2,.n),(3,.i 12),(4,.p 0 3 0 0)],[bm 3 [.slw 1 3 v89.q1.length,.slw 2 3 v89.l2.length,.i v89.1],bl 3 ah.e v89.q1,bl 3 ah.e v89.l2]⟩) λv89=>(.ret ((12:Int),([]:List ah)))))))
theorem bt.ok:op k 138 ([.l 5 ag.e code1],[]) (λv90=>(.tup [.o 0 3 v90.2.length,.i v90.1],[bl 3 ah.e v90.2])) (bt.f k code1):=by apply oP (bt.s · code1) k
end
def eE.b2(k:Nat):(Int×LI)->Option ((Int×LI)⊕(Int×LI)):=λ(n9,h10)=>(if n9>127 then(if aad (h10.length+1) 1 then(some (.inl ((ishr .u64 n9 7),(h10++([(ior .u8 (icv .u8 (iand .u64 n9 127)) 128)]:LI)))))else none)else(some (.inr (n9,h10))))
def eE.f:Nat->Int->Option (LI)
 | 0,_=>none
 | k+1,n1=>((loopS (eE.b2 k) k (n1,([]:LI))).bind λ(n11,h12)=>(if aad (h12.length+1) 1 then(some (h12++([(icv .u8 n11)]:LI)))else none))
section
variable(k:Nat)(n1:Int)
noncomputable def eE.s:Sc (LI):=(.loop (V:=Int×LI) (O:=Int×LI) 2 (n1,([]:LI)) (λv13=>⟨mk 20 [(0,.c (.v (.int .u64 v13.1))),(3,.o 0 1 v13.2.length)],[bl 1 (eI .u8) v13.2]⟩) (λv13=>(.bq 2 1 5 false (v13.1>127) (.ch 3 6 (aad (v13.2.length+1) 1) (aaa 1 v13.2.length ([(ior .u8 (icv .u8 (iand .u64 v13.1 127)) 128)]:LI) (mX (eI .u8) ([(ior .u8 (icv .u8 (iand .u64 v13.1 127)) 128)]:LI))) (.rS 3 6 12 (aac 2 1 v13.2 ([(ior .u8 (icv .u8 (iand .u64 v13.1 127)) 128)]:LI) (mX (eI .u8) ([(ior .u8 (icv .u8 (iand .u64 v13.1 127)) 128)]:LI))) (.rB 3 6 2 (aab 1 (eI .u8) v13.2 ([(ior .u8 (icv .u8 (iand .u64 v13.1 127)) 128)]:LI) (mX (eI .u8) ([(ior .u8 (icv .u8 (iand .u64 v13.1 127)) 128)]:LI))) (.prf 4 1 [(0:Int)<=7] ⟨by decide,trivial⟩ (.ret (.inl ((ishr .u64 v13.1 7),(v13.2++([(ior .u8 (icv .u8 (iand .u64 v13.1 127)) 128)]:LI))))))))) (.ret (.inr (v13.1,v13.2))))) (.exit 0) (λv14=>⟨mk 20 [(0,.c (.v (.int .u64 v14.1))),(3,.o 0 1 v14.2.length)],[bl 1 (eI .u8) v14.2]⟩) λv14=>(.ch 5 4 (aad (v14.2.length+1) 1) (aaa 1 v14.2.length ([(icv .u8 v14.1)]:LI) (mX (eI .u8) ([(icv .u8 v14.1)]:LI))) (.rS 5 4 19 (aac 2 1 v14.2 ([(icv .u8 v14.1)]:LI) (mX (eI .u8) ([(icv .u8 v14.1)]:LI))) (.rB 5 4 2 (aab 1 (eI .u8) v14.2 ([(icv .u8 v14.1)]:LI) (mX (eI .u8) ([(icv .u8 v14.1)]:LI))) (.ret (v14.2++([(icv .u8 v14.1)]:LI)))))))
theorem eE.ok:op k 226 ([.c (.v (.int .u64 n1))],[]) (λv15=>(.o 0 1 v15.length,[bl 1 (eI .u8) v15])) (eE.f k n1):=by apply oP (λ_=>eE.s n1) k
end
def ap.f:Nat->Int->Option (LI)
 | 0,_=>none
 | k+1,n1=>((eE.f k (icv .u64 n1)).bind λr5=>(some r5))
section
variable(k:Nat)(n1:Int)
noncomputable def ap.s:Sc (LI):=(.cl 1 2 (eE.ok k (icv .u64 n1)) λv6=>(.ret v6))
theorem ap.ok:op k 135 ([.i n1],[]) (λv7=>(.o 0 1 v7.length,[bl 1 (eI .u8) v7])) (ap.f k n1):=by apply oP (ap.s · n1) k
end
def bf.f:Nat->Int->LI->Option (LI)
 | 0,_,_=>none
 | k+1,n1,h2=>((ap.f k n1).bind λr6=>(if aad (r6.length+h2.length) 1 then(some (r6++h2))else none))
section
variable(k:Nat)(n1:Int)(h2:LI)
noncomputable def bf.s:Sc (LI):=(.cl 1 1 (ap.ok k n1) λv7=>(.ch 1 3 (aad (v7.length+h2.length) 1) (aaa 1 v7.length h2 (mX (eI .u8) h2)) (.rS 1 3 8 (aac 2 1 v7 h2 (mX (eI .u8) h2)) (.rB 1 3 2 (aab 1 (eI .u8) v7 h2 (mX (eI .u8) h2)) (.ret (v7++h2))))))
theorem bf.ok:op k 238 ([.i n1,.o 0 1 h2.length],[bl 1 (eI .u8) h2]) (λv8=>(.o 1 1 v8.length,[bl 1 (eI .u8) h2,bl 1 (eI .u8) v8])) (bf.f k n1 h2):=by apply oP (bf.s · n1 h2) k
end
def bh.b3(k:Nat)(l1:LI):(Int×LI)->Option ((Int×LI)⊕(LI)):=λ(x18,h19)=>(if x18<(l1.length:Int)then((at? l1 x18).bind λe24=>(if aad (h19.length+1) 1 then(some (.inl ((iadd .i64 x18 1),(h19++([(icv .u8 e24)]:LI)))))else none))else(some (.inr h19)))
def bh.f:Nat->LI->Option (LI)
 | 0,_=>none
 | k+1,l1=>((loopS (bh.b3 k l1) k ((0:Int),([]:LI))).bind λh22=>((bf.f k (l1.length:Int) h22).bind λr27=>(some r27)))
section
variable(k:Nat)(l1:LI)
noncomputable def bh.s:Sc (LI):=(.rS 2 1 7 (lm (eI .i64) l1) (.loop (V:=Int×LI) (O:=LI) 3 ((0:Int),([]:LI)) (λv23=>⟨mk 22 [(0,.l 1 (eI .i64) l1),(3,.o 0 1 v23.2.length),(6,.l 1 (eI .i64) l1),(7,.i (l1.length:Int)),(8,.i v23.1)],[bl 1 (eI .u8) v23.2]⟩) (λv23=>(.bq 3 0 9 false (v23.1<(l1.length:Int)) (.op 4 0 (Rd.el (eI .i64) l1 v23.1) λv25=>(.ch 5 4 (aad (v23.2.length+1) 1) (aaa 1 v23.2.length ([(icv .u8 v25)]:LI) (mX (eI .u8) ([(icv .u8 v25)]:LI))) (.rS 5 4 16 (aac 2 1 v23.2 ([(icv .u8 v25)]:LI) (mX (eI .u8) ([(icv .u8 v25)]:LI))) (.rB 5 4 2 (aab 1 (eI .u8) v23.2 ([(icv .u8 v25)]:LI) (mX (eI .u8) ([(icv .u8 v25)]:LI))) (.ret (.inl ((iadd .i64 v23.1 1),(v23.2++([(icv .u8 v25)]:LI))))))))) (.ret (.inr v23.2)))) (.exit 0) (λv26=>⟨mk 22 [(0,.l 1 (eI .i64) l1),(3,.o 0 1 v26.length)],[bl 1 (eI .u8) v26]⟩) λv26=>(.rS 7 1 19 (lm (eI .i64) l1) (.cl 7 3 (bf.ok k (l1.length:Int) v26) λv28=>(.ret v28)))))
theorem bh.ok:op k 143 ([.l 1 (eI .i64) l1],[]) (λv29=>(.o 0 1 v29.length,[bl 1 (eI .u8) v29])) (bh.f k l1):=by apply oP (bh.s · l1) k
end
def dQ.f:Nat->Int->Option (Nat×LI)
 | 0,_=>none
 | k+1,n1=>(if n1<0 then none else(if(isub .i64 n1 0)>0 then(if(0:Int)<=(isub .i64 n1 0)/\aad (((isub .i64 n1 0)).toNat) 1 then(if(0:Int)<=0/\(0:Nat)<=0/\(0:Nat)<=((List.replicate (((isub .i64 n1 0)).toNat) (0:Int))).length then(some ((0-0),(List.replicate (((isub .i64 n1 0)).toNat) (0:Int))))else none)else none)else(some (0,([]:LI)))))
section
variable(k:Nat)(n1:Int)
noncomputable def dQ.s:Sc (Nat×LI):=(.bq 1 1 6 false (n1<0) .fail (.bq 4 1 16 false ((isub .i64 n1 0)>0) (.prf 5 3 [(0:Int)<=0,(0:Nat)<=0,(0:Nat)<=([]:List (List FV)).length] ⟨by decide,by decide,by decide,trivial⟩ (.ch 5 5 ((0:Int)<=(isub .i64 n1 0)/\aad (((isub .i64 n1 0)).toNat) 1) (akE 1 (isub .i64 n1 0) ((eI .u8) (0:Int))) (.rS 5 5 22 (ag5 0 1 (List.replicate (((isub .i64 n1 0)).toNat) (0:Int)) (repX (eI .u8) (0:Int) (((isub .i64 n1 0)).toNat))) (.rB 5 5 0 (agP 1 (List.replicate (((isub .i64 n1 0)).toNat) (0:Int)) (repX (eI .u8) (0:Int) (((isub .i64 n1 0)).toNat))) (.ck 5 8 [(0:Int)<=0,(0:Nat)<=0,(0:Nat)<=((List.replicate (((isub .i64 n1 0)).toNat) (0:Int))).length] (.ret ((0-0),(List.replicate (((isub .i64 n1 0)).toNat) (0:Int))))))))) (.ret (0,([]:LI)))))
theorem dQ.ok:op k 239 ([.n,.i n1],[]) (λv4=>(.c (.sl 0 1 0 v4.1 none),[bl 1 (eI .u8) v4.2])) (dQ.f k n1):=by apply oP (λ_=>dQ.s n1) k
end
def aS.b3(k:Nat)(h1 h2 h3:LI):(Int×Int)->Option ((Int×Int)⊕Int):=λ(size42,x43)=>(if x43<(([h1,h2,h3]:List (LI)).length:Int)then((at? ([h1,h2,h3]:List (LI)) x43).bind λe52=>(if(iadd .i64 size42 (e52.length:Int))<0 then none else(some (.inl ((iadd .i64 size42 (e52.length:Int)),(iadd .i64 x43 1))))))else(some (.inr size42)))
def aS.b11(k:Nat)(h1 h2 h3:LI):(Nat×Int×LI)->Option ((Nat×Int×LI)⊕(Nat×LI)):=λ(newslice60,x61,h62)=>(if x61<(([h1,h2,h3]:List (LI)).length:Int)then((at? ([h1,h2,h3]:List (LI)) x61).bind λe68=>((if(0+newslice60)+e68.length<=h62.length then some ()else none).bind λ_=>(some (.inl ((newslice60+e68.length),(iadd .i64 x61 1),(overL h62 (0+newslice60) e68))))))else(some (.inr (newslice60,h62))))
def aS.f:Nat->LI->LI->LI->Option (LI)
 | 0,_,_,_=>none
 | k+1,h1,h2,h3=>((loopS (aS.b3 k h1 h2 h3) k ((0:Int),(0:Int))).bind λsize48=>((dQ.f k size48).bind λ(r55,r56)=>((loopS (aS.b11 k h1 h2 h3) k (r55,(0:Int),r56)).bind λ(newslice65,h66)=>(if newslice65<=h66.length then(some (List.take newslice65 h66))else none))))
section
variable(k:Nat)(h1 h2 h3:LI)
noncomputable def aS.s:Sc (LI):=(.rS 2 1 10 (lm (eL 1 (eI .u8)) ([h1,h2,h3]:List (LI))) (.loop (V:=Int×Int) (O:=Int) 3 ((0:Int),(0:Int)) (λv49=>⟨mk 36 [(0,.l 1 (eL 1 (eI .u8)) ([h1,h2,h3]:List (LI))),(3,.i v49.1),(9,.l 1 (eL 1 (eI .u8)) ([h1,h2,h3]:List (LI))),(10,.i (([h1,h2,h3]:List (LI)).length:Int)),(11,.i v49.2)],[none,none,none,none]⟩) (λv49=>(.bq 3 0 12 false (v49.2<(([h1,h2,h3]:List (LI)).length:Int)) (.op 4 0 (Rd.el (eL 1 (eI .u8)) ([h1,h2,h3]:List (LI)) v49.2) λv53=>(.rS 5 2 17 (lm (eI .u8) v53) (.bq 6 1 20 false ((iadd .i64 v49.1 (v53.length:Int))<0) .fail (.ret (.inl ((iadd .i64 v49.1 (v53.length:Int)),(iadd .i64 v49.2 1))))))) (.ret (.inr v49.1)))) (.exit 0) (λv54=>⟨mk 36 [(0,.l 1 (eL 1 (eI .u8)) ([h1,h2,h3]:List (LI))),(3,.i v54)],[none,none,none,none]⟩) λv54=>(.cl 9 1 (dQ.ok k v54) λv57=>(.rS 10 1 26 (lm (eL 1 (eI .u8)) ([h1,h2,h3]:List (LI))) (.loop (V:=Nat×Int×LI) (O:=Nat×LI) 11 (v57.1,(0:Int),v57.2) (λv67=>⟨mk 36 [(6,.c (.sl 4 1 0 v67.1 none)),(25,.l 1 (eL 1 (eI .u8)) ([h1,h2,h3]:List (LI))),(26,.i (([h1,h2,h3]:List (LI)).length:Int)),(27,.i v67.q1)],[none,none,none,none,bl 1 (eI .u8) v67.l2]⟩) (λv67=>(.bq 11 0 28 false (v67.q1<(([h1,h2,h3]:List (LI)).length:Int)) (.op 12 0 (Rd.el (eL 1 (eI .u8)) ([h1,h2,h3]:List (LI)) v67.q1) λv69=>(.op 13 2 (Rd.ft true [(0+v67.1)+(List.map (eI .u8) v69).length<=(List.map (eI .u8) v67.l2).length] ((0+v67.1)+v69.length<=v67.l2.length) (aho v67.l2 (0+v67.1) v69 (mX (eI .u8) v69))) λ_=>(.rS 13 2 33 (aji 4 1 0 v67.1 (mX (eI .u8) v69)) (.rB 13 2 4 (ah5 1 v67.l2 (0+v67.1) v69 (mX (eI .u8) v69)) (.ret (.inl ((v67.1+v69.length),(iadd .i64 v67.q1 1),(overL v67.l2 (0+v67.1) v69)))))))) (.ret (.inr (v67.1,v67.l2))))) (.exit 2) (λv70=>⟨mk 36 [(6,.c (.sl 4 1 0 v70.1 none))],[none,none,none,none,bl 1 (eI .u8) v70.2]⟩) λv70=>(.as 15 900 (v70.1<=v70.2.length) λhc=>(.rB 15 900 5 (aaY 1 (eI .u8) v70.2 v70.1) (.rS 15 900 6 (congrArg (λq=>A.c (.slw 5 1 q)) (aa0 hc)) (.ret (List.take v70.1 v70.2))))))))))
theorem aS.ok:op k 142 ([.o 0 1 3],[some (.mix 1 [[.slw 1 1 h1.length],[.slw 2 1 h2.length],[.slw 3 1 h3.length]]),bl 1 (eI .u8) h1,bl 1 (eI .u8) h2,bl 1 (eI .u8) h3]) (λv71=>(.o 4 1 v71.length,[none,none,none,none,bl 1 (eI .u8) v71])) (aS.f k h1 h2 h3):=by apply oP (aS.s · h1 h2 h3) k
end
def cL.f:Nat->af->Option (LI)
 | 0,_=>none
 | k+1,t1=>((bh.f k t1.Params).bind λr9=>((bh.f k t1.Results).bind λr11=>((aS.f k ([(96:Int)]:LI) r9 r11).bind λr13=>(some r13))))
section
variable(k:Nat)(t1:af)
noncomputable def cL.s:Sc (LI):=(.cl 1 3 (bh.ok k t1.Params) λv10=>(.cl 1 6 (bh.ok k t1.Results) λv12=>(.cl 1 8 (aS.ok k ([(96:Int)]:LI) v10 v12) λv14=>(.ret v14))))
theorem cL.ok:op k 141 ([.agp [.l 1 (eI .i64) t1.Params,.l 1 (eI .i64) t1.Results]],[]) (λv15=>(.o 0 1 v15.length,[bl 1 (eI .u8) v15])) (cL.f k t1):=by apply oP (cL.s · t1) k
end
def bO.b5(k:Nat)(l1:LTy):(Int×LI)->Option ((Int×LI)⊕(LI)):=λ(x28,h29)=>(if x28<(l1.length:Int)then((at? l1 x28).bind λe36=>((cL.f k e36).bind λr38=>(if aad (h29.length+r38.length) 1 then(some (.inl ((iadd .i64 x28 1),(h29++r38))))else none)))else(some (.inr h29)))
def bO.f:Nat->LTy->Option (LI)
 | 0,_=>none
 | k+1,l1=>(if(l1.length:Int)=0 then(some ([]:LI))else((ap.f k (l1.length:Int)).bind λr22=>((loopS (bO.b5 k l1) k ((0:Int),r22)).bind λh34=>(some h34))))
section
variable(k:Nat)(l1:LTy)
noncomputable def bO.s:Sc (LI):=(.rS 1 1 9 (lm af.e l1) (.bq 1 2 10 false ((l1.length:Int)=0) (.ret ([]:LI)) (.rS 3 1 12 (lm af.e l1) (.cl 3 2 (ap.ok k (l1.length:Int)) λv23=>(.rS 4 1 15 (lm af.e l1) (.loop (V:=Int×LI) (O:=LI) 5 ((0:Int),v23) (λv35=>⟨mk 27 [(1,.c (.v (.fn 141 []))),(5,.o 0 1 v35.2.length),(14,.l 2 af.e l1),(15,.i (l1.length:Int)),(16,.i v35.1)],[bl 1 (eI .u8) v35.2]⟩) (λv35=>(.bq 5 0 17 false (v35.1<(l1.length:Int)) (.op 6 0 (Rd.el af.e l1 v35.1) λv37=>(.cl 7 3 (cL.ok k v37) λv39=>(.ch 7 4 (aad (v35.2.length+v39.length) 1) (aaa 1 v35.2.length v39 (mX (eI .u8) v39)) (.rS 7 4 24 (aac 3 1 v35.2 v39 (mX (eI .u8) v39)) (.rB 7 4 3 (aab 1 (eI .u8) v35.2 v39 (mX (eI .u8) v39)) (.ret (.inl ((iadd .i64 v35.1 1),(v35.2++v39))))))))) (.ret (.inr v35.2)))) (.exit 0) (λv40=>⟨mk 27 [(5,.o 0 1 v40.length)],[bl 1 (eI .u8) v40]⟩) λv40=>(.ret v40)))))))
theorem bO.ok:op k 140 ([.l 2 af.e l1,.c (.v (.fn 141 []))],[]) (λv41=>(.o 0 1 v41.length,[bl 1 (eI .u8) v41])) (bO.f k l1):=by apply oP (bO.s · l1) k
end
def av.f:Nat->Int->LI->Option (LI)
 | 0,_,_=>none
 | k+1,n1,h2=>(if(h2.length:Int)=0 then(some ([]:LI))else((bf.f k (h2.length:Int) h2).bind λr6=>(if aad (1+r6.length) 1 then(some (([n1]:LI)++r6))else none)))
section
variable(k:Nat)(n1:Int)(h2:LI)
noncomputable def av.s:Sc (LI):=(.bq 1 2 7 false ((h2.length:Int)=0) (.ret ([]:LI)) (.cl 3 5 (bf.ok k (h2.length:Int) h2) λv7=>(.ch 3 6 (aad (1+v7.length) 1) (aaa 1 ([n1]:LI).length v7 (mX (eI .u8) v7)) (.rS 3 6 14 (aac 3 1 ([n1]:LI) v7 (mX (eI .u8) v7)) (.rB 3 6 3 (aab 1 (eI .u8) ([n1]:LI) v7 (mX (eI .u8) v7)) (.ret (([n1]:LI)++v7)))))))
theorem av.ok:op k 139 ([.c (.v (.int .u8 n1)),.o 0 1 h2.length],[bl 1 (eI .u8) h2]) (λv8=>(.o 1 1 v8.length,[bl 1 (eI .u8) h2,bl 1 (eI .u8) v8])) (av.f k n1 h2):=by apply oP (av.s · n1 h2) k
end
def bg.f:Nat->ByteArray->Option (LI)
 | 0,_=>none
 | k+1,s1=>(if s1.size<=140737488355328 then((bf.f k (s1.size:Int) (strL s1)).bind λr5=>(some r5))else none)
section
variable(k:Nat)(s1:ByteArray)
noncomputable def bg.s:Sc (LI):=(.ck 1 3 [s1.size<=140737488355328] (.rS 1 3 6 (agz 0 s1) (.rB 1 3 0 (agt s1) (.cl 1 4 (bf.ok k (s1.size:Int) (strL s1)) λv6=>(.ret v6)))))
theorem bg.ok:op k 146 ([.t s1],[]) (λv7=>(.o 0 1 v7.length,[bl 1 (eI .u8) v7])) (bg.f k s1):=by apply oP (bg.s · s1) k
end
def aP.b3(k:Nat)(h1 h2:LI)(h3 h4:LI):(Int×Int)->Option ((Int×Int)⊕Int):=λ(size43,x44)=>(if x44<(([h1,h2,h3,h4]:List (LI)).length:Int)then((at? ([h1,h2,h3,h4]:List (LI)) x44).bind λe53=>(if(iadd .i64 size43 (e53.length:Int))<0 then none else(some (.inl ((iadd .i64 size43 (e53.length:Int)),(iadd .i64 x44 1))))))else(some (.inr size43)))
def aP.b11(k:Nat)(h1 h2:LI)(h3 h4:LI):(Nat×Int×LI)->Option ((Nat×Int×LI)⊕(Nat×LI)):=λ(newslice61,x62,h63)=>(if x62<(([h1,h2,h3,h4]:List (LI)).length:Int)then((at? ([h1,h2,h3,h4]:List (LI)) x62).bind λe69=>((if(0+newslice61)+e69.length<=h63.length then some ()else none).bind λ_=>(some (.inl ((newslice61+e69.length),(iadd .i64 x62 1),(overL h63 (0+newslice61) e69))))))else(some (.inr (newslice61,h63))))
def aP.f:Nat->LI->LI->LI->LI->Option (LI)
 | 0,_,_,_,_=>none
 | k+1,h1,h2,h3,h4=>((loopS (aP.b3 k h1 h2 h3 h4) k ((0:Int),(0:Int))).bind λsize49=>((dQ.f k size49).bind λ(r56,r57)=>((loopS (aP.b11 k h1 h2 h3 h4) k (r56,(0:Int),r57)).bind λ(newslice66,h67)=>(if newslice66<=h67.length then(some (List.take newslice66 h67))else none))))
section
variable(k:Nat)(h1 h2:LI)(h3 h4:LI)
noncomputable def aP.s:Sc (LI):=(.rS 2 1 10 (lm (eL 1 (eI .u8)) ([h1,h2,h3,h4]:List (LI))) (.loop (V:=Int×Int) (O:=Int) 3 ((0:Int),(0:Int)) (λv50=>⟨mk 36 [(0,.l 1 (eL 1 (eI .u8)) ([h1,h2,h3,h4]:List (LI))),(3,.i v50.1),(9,.l 1 (eL 1 (eI .u8)) ([h1,h2,h3,h4]:List (LI))),(10,.i (([h1,h2,h3,h4]:List (LI)).length:Int)),(11,.i v50.2)],[none,none,none,none,none]⟩) (λv50=>(.bq 3 0 12 false (v50.2<(([h1,h2,h3,h4]:List (LI)).length:Int)) (.op 4 0 (Rd.el (eL 1 (eI .u8)) ([h1,h2,h3,h4]:List (LI)) v50.2) λv54=>(.rS 5 2 17 (lm (eI .u8) v54) (.bq 6 1 20 false ((iadd .i64 v50.1 (v54.length:Int))<0) .fail (.ret (.inl ((iadd .i64 v50.1 (v54.length:Int)),(iadd .i64 v50.2 1))))))) (.ret (.inr v50.1)))) (.exit 0) (λv55=>⟨mk 36 [(0,.l 1 (eL 1 (eI .u8)) ([h1,h2,h3,h4]:List (LI))),(3,.i v55)],[none,none,none,none,none]⟩) λv55=>(.cl 9 1 (dQ.ok k v55) λv58=>(.rS 10 1 26 (lm (eL 1 (eI .u8)) ([h1,h2,h3,h4]:List (LI))) (.loop (V:=Nat×Int×LI) (O:=Nat×LI) 11 (v58.1,(0:Int),v58.2) (λv68=>⟨mk 36 [(6,.c (.sl 5 1 0 v68.1 none)),(25,.l 1 (eL 1 (eI .u8)) ([h1,h2,h3,h4]:List (LI))),(26,.i (([h1,h2,h3,h4]:List (LI)).length:Int)),(27,.i v68.q1)],[none,none,none,none,none,bl 1 (eI .u8) v68.l2]⟩) (λv68=>(.bq 11 0 28 false (v68.q1<(([h1,h2,h3,h4]:List (LI)).length:Int)) (.op 12 0 (Rd.el (eL 1 (eI .u8)) ([h1,h2,h3,h4]:List (LI)) v68.q1) λv70=>(.op 13 2 (Rd.ft true [(0+v68.1)+(List.map (eI .u8) v70).length<=(List.map (eI .u8) v68.l2).length] ((0+v68.1)+v70.length<=v68.l2.length) (aho v68.l2 (0+v68.1) v70 (mX (eI .u8) v70))) λ_=>(.rS 13 2 33 (aji 5 1 0 v68.1 (mX (eI .u8) v70)) (.rB 13 2 5 (ah5 1 v68.l2 (0+v68.1) v70 (mX (eI .u8) v70)) (.ret (.inl ((v68.1+v70.length),(iadd .i64 v68.q1 1),(overL v68.l2 (0+v68.1) v70)))))))) (.ret (.inr (v68.1,v68.l2))))) (.exit 2) (λv71=>⟨mk 36 [(6,.c (.sl 5 1 0 v71.1 none))],[none,none,none,none,none,bl 1 (eI .u8) v71.2]⟩) λv71=>(.as 15 900 (v71.1<=v71.2.length) λhc=>(.rB 15 900 6 (aaY 1 (eI .u8) v71.2 v71.1) (.rS 15 900 6 (congrArg (λq=>A.c (.slw 6 1 q)) (aa0 hc)) (.ret (List.take v71.1 v71.2))))))))))
theorem aP.ok:op k 142 ([.o 0 1 4],[some (.mix 1 [[.slw 1 1 h1.length],[.slw 2 1 h2.length],[.slw 3 1 h3.length],[.slw 4 1 h4.length]]),bl 1 (eI .u8) h1,bl 1 (eI .u8) h2,bl 1 (eI .u8) h3,bl 1 (eI .u8) h4]) (λv72=>(.o 5 1 v72.length,[none,none,none,none,none,bl 1 (eI .u8) v72])) (aP.f k h1 h2 h3 h4):=by apply oP (aP.s · h1 h2 h3 h4) k
end
def cN.f:Nat->ak->Option (LI)
 | 0,_=>none
 | k+1,x1=>((bg.f k x1.Module).bind λr11=>((bg.f k x1.Name).bind λr13=>((ap.f k x1.fType).bind λr15=>((aP.f k r11 r13 ([(0:Int)]:LI) r15).bind λr17=>(some r17)))))
section
variable(k:Nat)(x1:ak)
noncomputable def cN.s:Sc (LI):=(.cl 1 2 (bg.ok k x1.Module) λv12=>(.cl 1 5 (bg.ok k x1.Name) λv14=>(.cl 1 9 (ap.ok k x1.fType) λv16=>(.cl 1 11 (aP.ok k v12 v14 ([(0:Int)]:LI) v16) λv18=>(.ret v18)))))
theorem cN.ok:op k 145 ([.agp [.str x1.Module,.str x1.Name,.i x1.fType]],[]) (λv19=>(.o 0 1 v19.length,[bl 1 (eI .u8) v19])) (cN.f k x1):=by apply oP (cN.s · x1) k
end
def bK.b5(k:Nat)(l1:LIm):(Int×LI)->Option ((Int×LI)⊕(LI)):=λ(x28,h29)=>(if x28<(l1.length:Int)then((at? l1 x28).bind λe36=>((cN.f k e36).bind λr38=>(if aad (h29.length+r38.length) 1 then(some (.inl ((iadd .i64 x28 1),(h29++r38))))else none)))else(some (.inr h29)))
def bK.f:Nat->LIm->Option (LI)
 | 0,_=>none
 | k+1,l1=>(if(l1.length:Int)=0 then(some ([]:LI))else((ap.f k (l1.length:Int)).bind λr22=>((loopS (bK.b5 k l1) k ((0:Int),r22)).bind λh34=>(some h34))))
section
variable(k:Nat)(l1:LIm)
noncomputable def bK.s:Sc (LI):=(.rS 1 1 9 (lm ak.e l1) (.bq 1 2 10 false ((l1.length:Int)=0) (.ret ([]:LI)) (.rS 3 1 12 (lm ak.e l1) (.cl 3 2 (ap.ok k (l1.length:Int)) λv23=>(.rS 4 1 15 (lm ak.e l1) (.loop (V:=Int×LI) (O:=LI) 5 ((0:Int),v23) (λv35=>⟨mk 27 [(1,.c (.v (.fn 145 []))),(5,.o 0 1 v35.2.length),(14,.l 3 ak.e l1),(15,.i (l1.length:Int)),(16,.i v35.1)],[bl 1 (eI .u8) v35.2]⟩) (λv35=>(.bq 5 0 17 false (v35.1<(l1.length:Int)) (.op 6 0 (Rd.el ak.e l1 v35.1) λv37=>(.cl 7 3 (cN.ok k v37) λv39=>(.ch 7 4 (aad (v35.2.length+v39.length) 1) (aaa 1 v35.2.length v39 (mX (eI .u8) v39)) (.rS 7 4 24 (aac 3 1 v35.2 v39 (mX (eI .u8) v39)) (.rB 7 4 3 (aab 1 (eI .u8) v35.2 v39 (mX (eI .u8) v39)) (.ret (.inl ((iadd .i64 v35.1 1),(v35.2++v39))))))))) (.ret (.inr v35.2)))) (.exit 0) (λv40=>⟨mk 27 [(5,.o 0 1 v40.length)],[bl 1 (eI .u8) v40]⟩) λv40=>(.ret v40)))))))
theorem bK.ok:op k 144 ([.l 3 ak.e l1,.c (.v (.fn 145 []))],[]) (λv41=>(.o 0 1 v41.length,[bl 1 (eI .u8) v41])) (bK.f k l1):=by apply oP (bK.s · l1) k
end
def cP.f:Nat->aj->Option (LI)
 | 0,_=>none
 | k+1,f1=>((ap.f k f1.fType).bind λr5=>(some r5))
section
variable(k:Nat)(f1:aj)
noncomputable def cP.s:Sc (LI):=(.cl 1 2 (ap.ok k f1.fType) λv6=>(.ret v6))
theorem cP.ok:op k 148 ([.agp [.i f1.fType,.l 1 (eI .i64) f1.Locals,.l 5 ag.e f1.Code]],[]) (λv7=>(.o 0 1 v7.length,[bl 1 (eI .u8) v7])) (cP.f k f1):=by apply oP (cP.s · f1) k
end
def bJ.b5(k:Nat)(l1:LFu):(Int×LI)->Option ((Int×LI)⊕(LI)):=λ(x28,h29)=>(if x28<(l1.length:Int)then((at? l1 x28).bind λe36=>((cP.f k e36).bind λr38=>(if aad (h29.length+r38.length) 1 then(some (.inl ((iadd .i64 x28 1),(h29++r38))))else none)))else(some (.inr h29)))
def bJ.f:Nat->LFu->Option (LI)
 | 0,_=>none
 | k+1,l1=>(if(l1.length:Int)=0 then(some ([]:LI))else((ap.f k (l1.length:Int)).bind λr22=>((loopS (bJ.b5 k l1) k ((0:Int),r22)).bind λh34=>(some h34))))
section
variable(k:Nat)(l1:LFu)
noncomputable def bJ.s:Sc (LI):=(.rS 1 1 9 (lm aj.e l1) (.bq 1 2 10 false ((l1.length:Int)=0) (.ret ([]:LI)) (.rS 3 1 12 (lm aj.e l1) (.cl 3 2 (ap.ok k (l1.length:Int)) λv23=>(.rS 4 1 15 (lm aj.e l1) (.loop (V:=Int×LI) (O:=LI) 5 ((0:Int),v23) (λv35=>⟨mk 27 [(1,.c (.v (.fn 148 []))),(5,.o 0 1 v35.2.length),(14,.l 3 aj.e l1),(15,.i (l1.length:Int)),(16,.i v35.1)],[bl 1 (eI .u8) v35.2]⟩) (λv35=>(.bq 5 0 17 false (v35.1<(l1.length:Int)) (.op 6 0 (Rd.el aj.e l1 v35.1) λv37=>(.cl 7 3 (cP.ok k v37) λv39=>(.ch 7 4 (aad (v35.2.length+v39.length) 1) (aaa 1 v35.2.length v39 (mX (eI .u8) v39)) (.rS 7 4 24 (aac 3 1 v35.2 v39 (mX (eI .u8) v39)) (.rB 7 4 3 (aab 1 (eI .u8) v35.2 v39 (mX (eI .u8) v39)) (.ret (.inl ((iadd .i64 v35.1 1),(v35.2++v39))))))))) (.ret (.inr v35.2)))) (.exit 0) (λv40=>⟨mk 27 [(5,.o 0 1 v40.length)],[bl 1 (eI .u8) v40]⟩) λv40=>(.ret v40)))))))
theorem bJ.ok:op k 147 ([.l 3 aj.e l1,.c (.v (.fn 148 []))],[]) (λv41=>(.o 0 1 v41.length,[bl 1 (eI .u8) v41])) (bJ.f k l1):=by apply oP (bJ.s · l1) k
end
def cR.f:Nat->au->Option (LI)
 | 0,_=>none
 | k+1,x1=>((ap.f k x1.Min).bind λr9=>((ap.f k x1.Max).bind λr11=>((aS.f k ([(1:Int)]:LI) r9 r11).bind λr13=>(some r13))))
section
variable(k:Nat)(x1:au)
noncomputable def cR.s:Sc (LI):=(.cl 1 3 (ap.ok k x1.Min) λv10=>(.cl 1 6 (ap.ok k x1.Max) λv12=>(.cl 1 8 (aS.ok k ([(1:Int)]:LI) v10 v12) λv14=>(.ret v14))))
theorem cR.ok:op k 150 ([.agp [.i x1.Min,.i x1.Max]],[]) (λv15=>(.o 0 1 v15.length,[bl 1 (eI .u8) v15])) (cR.f k x1):=by apply oP (cR.s · x1) k
end
def bR.b5(k:Nat)(l1:LMe):(Int×LI)->Option ((Int×LI)⊕(LI)):=λ(x28,h29)=>(if x28<(l1.length:Int)then((at? l1 x28).bind λe36=>((cR.f k e36).bind λr38=>(if aad (h29.length+r38.length) 1 then(some (.inl ((iadd .i64 x28 1),(h29++r38))))else none)))else(some (.inr h29)))
def bR.f:Nat->LMe->Option (LI)
 | 0,_=>none
 | k+1,l1=>(if(l1.length:Int)=0 then(some ([]:LI))else((ap.f k (l1.length:Int)).bind λr22=>((loopS (bR.b5 k l1) k ((0:Int),r22)).bind λh34=>(some h34))))
section
variable(k:Nat)(l1:LMe)
noncomputable def bR.s:Sc (LI):=(.rS 1 1 9 (lm au.e l1) (.bq 1 2 10 false ((l1.length:Int)=0) (.ret ([]:LI)) (.rS 3 1 12 (lm au.e l1) (.cl 3 2 (ap.ok k (l1.length:Int)) λv23=>(.rS 4 1 15 (lm au.e l1) (.loop (V:=Int×LI) (O:=LI) 5 ((0:Int),v23) (λv35=>⟨mk 27 [(1,.c (.v (.fn 150 []))),(5,.o 0 1 v35.2.length),(14,.l 2 au.e l1),(15,.i (l1.length:Int)),(16,.i v35.1)],[bl 1 (eI .u8) v35.2]⟩) (λv35=>(.bq 5 0 17 false (v35.1<(l1.length:Int)) (.op 6 0 (Rd.el au.e l1 v35.1) λv37=>(.cl 7 3 (cR.ok k v37) λv39=>(.ch 7 4 (aad (v35.2.length+v39.length) 1) (aaa 1 v35.2.length v39 (mX (eI .u8) v39)) (.rS 7 4 24 (aac 3 1 v35.2 v39 (mX (eI .u8) v39)) (.rB 7 4 3 (aab 1 (eI .u8) v35.2 v39 (mX (eI .u8) v39)) (.ret (.inl ((iadd .i64 v35.1 1),(v35.2++v39))))))))) (.ret (.inr v35.2)))) (.exit 0) (λv40=>⟨mk 27 [(5,.o 0 1 v40.length)],[bl 1 (eI .u8) v40]⟩) λv40=>(.ret v40)))))))
theorem bR.ok:op k 149 ([.l 2 au.e l1,.c (.v (.fn 150 []))],[]) (λv41=>(.o 0 1 v41.length,[bl 1 (eI .u8) v41])) (bR.f k l1):=by apply oP (bR.s · l1) k
end
def eo.b2(k:Nat):(Int×LI)->Option ((Int×LI)⊕(Int×LI)):=λ(n13,h14)=>(segB (if n13<(-64)then(some (.inl ()))else(if n13≥64 then(some (.inl ()))else(some (.inr (.inr (n13,h14)))))) (λ_=>(if aad (h14.length+1) 1 then(some (.inl ((ishr .i64 n13 7),(h14++([(ior .u8 (icv .u8 (iand .i64 n13 127)) 128)]:LI)))))else none)))
def eo.f:Nat->Int->Option (LI)
 | 0,_=>none
 | k+1,n1=>((loopS (eo.b2 k) k (n1,([]:LI))).bind λ(n16,h17)=>(if aad (h17.length+1) 1 then(some (h17++([(icv .u8 (iand .i64 n16 127))]:LI)))else none))
section
variable(k:Nat)(n1:Int)
noncomputable def eo.s:Sc (LI):=(.loop (V:=Int×LI) (O:=Int×LI) 2 (n1,([]:LI)) (λv18=>⟨mk 25 [(0,.i v18.1),(3,.o 0 1 v18.2.length)],[bl 1 (eI .u8) v18.2]⟩) (λv18=>(.seg (O:=Unit) 3 (.bq 2 2 6 false (v18.1<(-64)) (.ret (.inl ())) (.bq 2 5 9 false (v18.1≥64) (.ret (.inl ())) (.ret (.inr (.inr (v18.1,v18.2)))))) (λv19=>⟨mk 25 [(0,.i v18.1),(3,.o 0 1 v18.2.length)],[bl 1 (eI .u8) v18.2]⟩) λv19=>(.ch 3 6 (aad (v18.2.length+1) 1) (aaa 1 v18.2.length ([(ior .u8 (icv .u8 (iand .i64 v18.1 127)) 128)]:LI) (mX (eI .u8) ([(ior .u8 (icv .u8 (iand .i64 v18.1 127)) 128)]:LI))) (.rS 3 6 16 (aac 2 1 v18.2 ([(ior .u8 (icv .u8 (iand .i64 v18.1 127)) 128)]:LI) (mX (eI .u8) ([(ior .u8 (icv .u8 (iand .i64 v18.1 127)) 128)]:LI))) (.rB 3 6 2 (aab 1 (eI .u8) v18.2 ([(ior .u8 (icv .u8 (iand .i64 v18.1 127)) 128)]:LI) (mX (eI .u8) ([(ior .u8 (icv .u8 (iand .i64 v18.1 127)) 128)]:LI))) (.prf 4 1 [(0:Int)<=7] ⟨by decide,trivial⟩ (.ret (.inl ((ishr .i64 v18.1 7),(v18.2++([(ior .u8 (icv .u8 (iand .i64 v18.1 127)) 128)]:LI))))))))))) (.exit 0) (λv20=>⟨mk 25 [(0,.i v20.1),(3,.o 0 1 v20.2.length)],[bl 1 (eI .u8) v20.2]⟩) λv20=>(.ch 5 5 (aad (v20.2.length+1) 1) (aaa 1 v20.2.length ([(icv .u8 (iand .i64 v20.1 127))]:LI) (mX (eI .u8) ([(icv .u8 (iand .i64 v20.1 127))]:LI))) (.rS 5 5 24 (aac 2 1 v20.2 ([(icv .u8 (iand .i64 v20.1 127))]:LI) (mX (eI .u8) ([(icv .u8 (iand .i64 v20.1 127))]:LI))) (.rB 5 5 2 (aab 1 (eI .u8) v20.2 ([(icv .u8 (iand .i64 v20.1 127))]:LI) (mX (eI .u8) ([(icv .u8 (iand .i64 v20.1 127))]:LI))) (.ret (v20.2++([(icv .u8 (iand .i64 v20.1 127))]:LI)))))))
theorem eo.ok:op k 287 ([.i n1],[]) (λv21=>(.o 0 1 v21.length,[bl 1 (eI .u8) v21])) (eo.f k n1):=by apply oP (λ_=>eo.s n1) k
end
def dE.f:Nat->Int->Option (LI)
 | 0,_=>none
 | k+1,a1=>(if a1=(-1)then(some ([(64:Int)]:LI))else(if a1=(-2)then(some ([(127:Int)]:LI))else(if a1=(-3)then(some ([(126:Int)]:LI))else(if a1=(-4)then(some ([(124:Int)]:LI))else((eo.f k a1).bind λr5=>(some r5))))))
section
variable(k:Nat)(a1:Int)
noncomputable def dE.s:Sc (LI):=(.bq 2 1 4 false (a1=(-1)) (.ret ([(64:Int)]:LI)) (.bq 4 1 7 false (a1=(-2)) (.ret ([(127:Int)]:LI)) (.bq 6 1 10 false (a1=(-3)) (.ret ([(126:Int)]:LI)) (.bq 8 1 13 false (a1=(-4)) (.ret ([(124:Int)]:LI)) (.cl 10 1 (eo.ok k a1) λv6=>(.ret v6))))))
theorem dE.ok:op k 227 ([.i a1],[]) (λv7=>(.o 0 1 v7.length,[bl 1 (eI .u8) v7])) (dE.f k a1):=by apply oP (dE.s · a1) k
end
def dk.f:Nat->Int->Option (Int)
 | 0,_=>none
 | k+1,x1=>(segB (if x1≥4294967296 then(some (.inl ((ishr .u64 x1 32),(32:Int))))else(some (.inl (x1,(0:Int))))) (λ(x14,n15)=>(segB (if x14≥65536 then(some (.inl ((ishr .u64 x14 16),(iadd .i64 n15 16))))else(some (.inl (x14,n15)))) (λ(x17,n18)=>(segB (if x17≥256 then(some (.inl ((ishr .u64 x17 8),(iadd .i64 n18 8))))else(some (.inl (x17,n18)))) (λ(x20,n21)=>((apn (⟨#[0,1,2,2,3,3,3,3,4,4,4,4,4,4,4,4,5,5,5,5,5,5,5,5,5,5,5,5,5,5,5,5,6,6,6,6,6,6,6,6,6,6,6,6,6,6,6,6,6,6,6,6,6,6,6,6,6,6,6,6,6,6,6,6,7,7,7,7,7,7,7,7,7,7,7,7,7,7,7,7,7,7,7,7,7,7,7,7,7,7,7,7,7,7,7,7,7,7,7,7,7,7,7,7,7,7,7,7,7,7,7,7,7,7,7,7,7,7,7,7,7,7,7,7,7,7,7,7,8,8,8,8,8,8,8,8,8,8,8,8,8,8,8,8,8,8,8,8,8,8,8,8,8,8,8,8,8,8,8,8,8,8,8,8,8,8,8,8,8,8,8,8,8,8,8,8,8,8,8,8,8,8,8,8,8,8,8,8,8,8,8,8,8,8,8,8,8,8,8,8,8,8,8,8,8,8,8,8,8,8,8,8,8,8,8,8,8,8,8,8,8,8,8,8,8,8,8,8,8,8,8,8,8,8,8,8,8,8,8,8,8,8,8,8,8,8,8,8,8,8,8,8,8,8,8,8]⟩:ByteArray) (icv .u8 x20)).bind λc23=>(some (iadd .i64 n21 (icv .i64 c23))))))))))
section
variable(k:Nat)(x1:Int)
noncomputable def dk.s:Sc (Int):=(.seg (O:=Int×Int) 4 (.bq 1 1 4 false (x1≥4294967296) (.prf 2 1 [(0:Int)<=32] ⟨by decide,trivial⟩ (.ret (.inl ((ishr .u64 x1 32),(32:Int))))) (.ret (.inl (x1,(0:Int))))) (λv16=>⟨mk 25 [(0,.c (.v (.int .u64 v16.1))),(2,.i v16.2)],[]⟩) λv16=>(.seg (O:=Int×Int) 7 (.bq 4 1 8 false (v16.1≥65536) (.prf 5 1 [(0:Int)<=16] ⟨by decide,trivial⟩ (.ret (.inl ((ishr .u64 v16.1 16),(iadd .i64 v16.2 16))))) (.ret (.inl (v16.1,v16.2)))) (λv19=>⟨mk 25 [(0,.c (.v (.int .u64 v19.1))),(2,.i v19.2)],[]⟩) λv19=>(.seg (O:=Int×Int) 10 (.bq 7 1 14 false (v19.1≥256) (.prf 8 1 [(0:Int)<=8] ⟨by decide,trivial⟩ (.ret (.inl ((ishr .u64 v19.1 8),(iadd .i64 v19.2 8))))) (.ret (.inl (v19.1,v19.2)))) (λv22=>⟨mk 25 [(0,.c (.v (.int .u64 v22.1))),(2,.i v22.2)],[]⟩) λv22=>(.op 10 3 (Rd.sx (⟨#[0,1,2,2,3,3,3,3,4,4,4,4,4,4,4,4,5,5,5,5,5,5,5,5,5,5,5,5,5,5,5,5,6,6,6,6,6,6,6,6,6,6,6,6,6,6,6,6,6,6,6,6,6,6,6,6,6,6,6,6,6,6,6,6,7,7,7,7,7,7,7,7,7,7,7,7,7,7,7,7,7,7,7,7,7,7,7,7,7,7,7,7,7,7,7,7,7,7,7,7,7,7,7,7,7,7,7,7,7,7,7,7,7,7,7,7,7,7,7,7,7,7,7,7,7,7,7,7,8,8,8,8,8,8,8,8,8,8,8,8,8,8,8,8,8,8,8,8,8,8,8,8,8,8,8,8,8,8,8,8,8,8,8,8,8,8,8,8,8,8,8,8,8,8,8,8,8,8,8,8,8,8,8,8,8,8,8,8,8,8,8,8,8,8,8,8,8,8,8,8,8,8,8,8,8,8,8,8,8,8,8,8,8,8,8,8,8,8,8,8,8,8,8,8,8,8,8,8,8,8,8,8,8,8,8,8,8,8,8,8,8,8,8,8,8,8,8,8,8,8,8,8,8,8,8,8]⟩:ByteArray) (icv .u8 v22.1)) λv24=>(.ret (iadd .i64 v22.2 (icv .i64 v24)))))))
theorem dk.ok:op k 324 ([.c (.v (.int .u64 x1))],[]) (λv25=>(.i v25,[])) (dk.f k x1):=by apply oP (λ_=>dk.s x1) k
end
def bk.f:Nat->Int->Option (Int)
 | 0,_=>none
 | k+1,x1=>((dk.f k x1).bind λr5=>(some r5))
section
variable(k:Nat)(x1:Int)
noncomputable def bk.s:Sc (Int):=(.cl 2 1 (dk.ok k x1) λv6=>(.ret v6))
theorem bk.ok:op k 288 ([.c (.v (.int .u64 x1))],[]) (λv7=>(.i v7,[])) (bk.f k x1):=by apply oP (bk.s · x1) k
end
def dt.f:Nat->ag->Int->Option (LI)
 | 0,_,_=>none
 | k+1,i1,width2=>((bk.f k (icv .u64 width2)).bind λr24=>((ap.f k (isub .i64 r24 1)).bind λr26=>(segB (if i1.A>0 then((bk.f k (icv .u64 width2)).bind λr35=>((ap.f k (iadd .i64 (isub .i64 r35 1) 64)).bind λr37=>((ap.f k i1.A).bind λr39=>(if aad (r37.length+r39.length) 1 then(some (.inl (r37++r39)))else none))))else(some (.inl r26))) (λh34=>((eE.f k i1.N).bind λr42=>(if aad (h34.length+r42.length) 1 then(some (h34++r42))else none))))))
section
variable(k:Nat)(i1:ag)(width2:Int)
noncomputable def dt.s:Sc (LI):=(.cl 1 2 (bk.ok k (icv .u64 width2)) λv25=>(.cl 1 4 (ap.ok k (isub .i64 v25 1)) λv27=>(.seg (O:=LI) 4 (.bq 2 2 13 false (i1.A>0) (.cl 3 2 (bk.ok k (icv .u64 width2)) λv36=>(.cl 3 5 (ap.ok k (iadd .i64 (isub .i64 v36 1) 64)) λv38=>(.cl 3 8 (ap.ok k i1.A) λv40=>(.ch 3 9 (aad (v38.length+v40.length) 1) (aaa 1 v38.length v40 (mX (eI .u8) v40)) (.rS 3 9 23 (aac 4 1 v38 v40 (mX (eI .u8) v40)) (.rB 3 9 4 (aab 1 (eI .u8) v38 v40 (mX (eI .u8) v40)) (.ret (.inl (v38++v40))))))))) (.ret (.inl v27))) (λv41=>⟨mk 29 [(2,.p 0 5 0 0),(5,.o 1 1 v41.length)],[bp 5 [.i i1.Op,.i i1.A,.i i1.B,.int .u64 i1.N,.l 1 (eI .i64) i1.L],bl 1 (eI .u8) v41]⟩) λv41=>(.cl 4 3 (eE.ok k i1.N) λv43=>(.ch 4 4 (aad (v41.length+v43.length) 1) (aaa 1 v41.length v43 (mX (eI .u8) v43)) (.rS 4 4 28 (aac 3 1 v41 v43 (mX (eI .u8) v43)) (.rB 4 4 3 (aab 1 (eI .u8) v41 v43 (mX (eI .u8) v43)) (.ret (v41++v43)))))))))
theorem dt.ok:op k 228 ([.agp [.i i1.Op,.i i1.A,.i i1.B,.int .u64 i1.N,.l 1 (eI .i64) i1.L],.i width2],[]) (λv44=>(.o 0 1 v44.length,[bl 1 (eI .u8) v44])) (dt.f k i1 width2):=by apply oP (dt.s · i1 width2) k
end
def ev.f:Nat->Int->Int->Option (Int)
 | 0,_,_=>none
 | k+1,v1,n2=>(if(0:Int)<=(isub .i64 64 (imax 1 (imin n2 64)))then(if(0:Int)<=(isub .i64 64 (imax 1 (imin n2 64)))then(let y6:Int:=(ishr .i64 (icv .i64 (ishl .u64 v1 (isub .i64 64 (imax 1 (imin n2 64))))) (isub .i64 64 (imax 1 (imin n2 64))));(some y6))else none)else none)
section
variable(k:Nat)(v1 n2:Int)
noncomputable def ev.s:Sc (Int):=(.ck 2 3 [(0:Int)<=(isub .i64 64 (imax 1 (imin n2 64)))] (.ck 2 7 [(0:Int)<=(isub .i64 64 (imax 1 (imin n2 64)))] (.nm 2 7 15 .i64 (ishr .i64 (icv .i64 (ishl .u64 v1 (isub .i64 64 (imax 1 (imin n2 64))))) (isub .i64 64 (imax 1 (imin n2 64)))) λv7=>(.ret v7))))
theorem ev.ok:op k 289 ([.c (.v (.int .u64 v1)),.i n2],[]) (λv8=>(.i v8,[])) (ev.f k v1 n2):=by apply oP (λ_=>ev.s v1 n2) k
end
def aT.b8(k:Nat)(i1:ag):(Int×LI)->Option ((Int×LI)⊕(LI)):=λ(x32,h33)=>(if x32<8 then(if(0:Int)<=(imul .i64 8 x32)then(if aad (h33.length+1) 1 then(some (.inl ((iadd .i64 x32 1),(h33++([(icv .u8 (ishr .u64 i1.N (imul .i64 8 x32)))]:LI)))))else none)else none)else(some (.inr h33)))
def aT.f:Nat->ag->Option (LI)
 | 0,_=>none
 | k+1,i1=>(if i1.Op=65 then((ev.f k i1.N (32:Int)).bind λr26=>((eo.f k r26).bind λr28=>(some r28)))else(if i1.Op=66 then((eo.f k (icv .i64 i1.N)).bind λr30=>(some r30))else((loopS (aT.b8 k i1) k ((0:Int),([]:LI))).bind λh34=>(some h34))))
section
variable(k:Nat)(i1:ag)
noncomputable def aT.s:Sc (LI):=(.bq 2 1 7 false (i1.Op=65) (.cl 3 2 (ev.ok k i1.N (32:Int)) λv27=>(.cl 3 3 (eo.ok k v27) λv29=>(.ret v29))) (.bq 4 1 13 false (i1.Op=66) (.cl 5 3 (eo.ok k (icv .i64 i1.N)) λv31=>(.ret v31)) (.loop (V:=Int×LI) (O:=LI) 8 ((0:Int),([]:LI)) (λv35=>⟨mk 33 [(1,.p 0 5 0 0),(3,.o 1 1 v35.2.length),(19,.i v35.1)],[bp 5 [.i i1.Op,.i i1.A,.i i1.B,.int .u64 i1.N,.l 1 (eI .i64) i1.L],bl 1 (eI .u8) v35.2]⟩) (λv35=>(.bq 8 0 20 false (v35.1<8) (.ck 10 5 [(0:Int)<=(imul .i64 8 v35.1)] (.ch 10 8 (aad (v35.2.length+1) 1) (aaa 1 v35.2.length ([(icv .u8 (ishr .u64 i1.N (imul .i64 8 v35.1)))]:LI) (mX (eI .u8) ([(icv .u8 (ishr .u64 i1.N (imul .i64 8 v35.1)))]:LI))) (.rS 10 8 30 (aac 3 1 v35.2 ([(icv .u8 (ishr .u64 i1.N (imul .i64 8 v35.1)))]:LI) (mX (eI .u8) ([(icv .u8 (ishr .u64 i1.N (imul .i64 8 v35.1)))]:LI))) (.rB 10 8 3 (aab 1 (eI .u8) v35.2 ([(icv .u8 (ishr .u64 i1.N (imul .i64 8 v35.1)))]:LI) (mX (eI .u8) ([(icv .u8 (ishr .u64 i1.N (imul .i64 8 v35.1)))]:LI))) (.ret (.inl ((iadd .i64 v35.1 1),(v35.2++([(icv .u8 (ishr .u64 i1.N (imul .i64 8 v35.1)))]:LI))))))))) (.ret (.inr v35.2)))) (.exit 1) (λv36=>⟨mk 33 [(3,.o 0 1 v36.length)],[bl 1 (eI .u8) v36]⟩) λv36=>(.ret v36))))
theorem aT.ok:op k 229 ([.agp [.i i1.Op,.i i1.A,.i i1.B,.int .u64 i1.N,.l 1 (eI .i64) i1.L]],[]) (λv37=>(.o 0 1 v37.length,[bl 1 (eI .u8) v37])) (aT.f k i1):=by apply oP (aT.s · i1) k
end
def bu.b3(k:Nat)(l1:LI):(Int×LI)->Option ((Int×LI)⊕(LI)):=λ(x26,h27)=>(if x26<(l1.length:Int)then((at? l1 x26).bind λe34=>((ap.f k e34).bind λr36=>(if aad (h27.length+r36.length) 1 then(some (.inl ((iadd .i64 x26 1),(h27++r36))))else none)))else(some (.inr h27)))
def bu.f:Nat->LI->Option (LI)
 | 0,_=>none
 | k+1,l1=>((loopS (bu.b3 k l1) k ((0:Int),([]:LI))).bind λh32=>((ap.f k (imax 0 (isub .i64 (l1.length:Int) 1))).bind λr39=>(if aad (r39.length+h32.length) 1 then(some (r39++h32))else none)))
section
variable(k:Nat)(l1:LI)
noncomputable def bu.s:Sc (LI):=(.rS 2 1 7 (lm (eI .i64) l1) (.loop (V:=Int×LI) (O:=LI) 3 ((0:Int),([]:LI)) (λv33=>⟨mk 24 [(0,.l 1 (eI .i64) l1),(3,.o 0 1 v33.2.length),(6,.l 1 (eI .i64) l1),(7,.i (l1.length:Int)),(8,.i v33.1)],[bl 1 (eI .u8) v33.2]⟩) (λv33=>(.bq 3 0 9 false (v33.1<(l1.length:Int)) (.op 4 0 (Rd.el (eI .i64) l1 v33.1) λv35=>(.cl 5 2 (ap.ok k v35) λv37=>(.ch 5 3 (aad (v33.2.length+v37.length) 1) (aaa 1 v33.2.length v37 (mX (eI .u8) v37)) (.rS 5 3 15 (aac 2 1 v33.2 v37 (mX (eI .u8) v37)) (.rB 5 3 2 (aab 1 (eI .u8) v33.2 v37 (mX (eI .u8) v37)) (.ret (.inl ((iadd .i64 v33.1 1),(v33.2++v37))))))))) (.ret (.inr v33.2)))) (.exit 0) (λv38=>⟨mk 24 [(0,.l 1 (eI .i64) l1),(3,.o 0 1 v38.length)],[bl 1 (eI .u8) v38]⟩) λv38=>(.rS 7 1 18 (lm (eI .i64) l1) (.cl 7 4 (ap.ok k (imax 0 (isub .i64 (l1.length:Int) 1))) λv40=>(.ch 7 6 (aad (v40.length+v38.length) 1) (aaa 1 v40.length v38 (mX (eI .u8) v38)) (.rS 7 6 23 (aac 2 1 v40 v38 (mX (eI .u8) v38)) (.rB 7 6 2 (aab 1 (eI .u8) v40 v38 (mX (eI .u8) v38)) (.ret (v40++v38)))))))))
theorem bu.ok:op k 230 ([.l 1 (eI .i64) l1],[]) (λv41=>(.o 0 1 v41.length,[bl 1 (eI .u8) v41])) (bu.f k l1):=by apply oP (bu.s · l1) k
end
def bL.f:Nat->ag->Option (LI)
 | 0,_=>none
 | k+1,i1=>((aD.f k i1.Op).bind λ(r55,r56,r57,r58)=>((cH.f k i1.Op).bind λ(r60,r61)=>((bj.f k i1.Op).bind λr71=>(if r71=true then((dE.f k i1.A).bind λr73=>(some r73))else(if r58=true then((dt.f k i1 r55).bind λr75=>(some r75))else(if r61=true then((aT.f k i1).bind λr77=>(some r77))else(segB (if i1.Op=12 then(some (.inl true))else(if i1.Op=13 then(some (.inl true))else(if i1.Op=16 then(some (.inl true))else(if i1.Op=18 then(some (.inl true))else(if i1.Op=32 then(some (.inl true))else(if i1.Op=33 then(some (.inl true))else(if i1.Op=34 then(some (.inl true))else(if i1.Op=35 then(some (.inl true))else(if i1.Op=36 then(some (.inl true))else(if i1.Op=63 then(some (.inl true))else(if i1.Op=64 then(some (.inl true))else(if i1.Op=64521 then(some (.inl true))else(if i1.Op=64523 then(some (.inl true))else(some (.inl false))))))))))))))) (λx93=>(if x93=true then((ap.f k i1.A).bind λr95=>(some r95))else(if i1.Op=14 then((bu.f k i1.L).bind λr97=>(some r97))else(if i1.Op=64520 then((ap.f k i1.B).bind λr99=>((ap.f k i1.A).bind λr101=>(if aad (r99.length+r101.length) 1 then(some (r99++r101))else none)))else(if i1.Op=64522 then((ap.f k i1.A).bind λr103=>((ap.f k i1.B).bind λr105=>(if aad (r103.length+r105.length) 1 then(some (r103++r105))else none)))else(some ([]:LI))))))))))))))
section
variable(k:Nat)(i1:ag)
noncomputable def bL.s:Sc (LI):=(.cl 1 2 (aD.ok k i1.Op) λv59=>(.cl 2 2 (cH.ok k i1.Op) λv62=>(.cl 3 2 (bj.ok k i1.Op) λv72=>(.br 3 3 23 v72 (.cl 4 2 (dE.ok k i1.A) λv74=>(.ret v74)) (.br 5 1 30 v59.l3 (.cl 6 2 (dt.ok k i1 v59.1) λv76=>(.ret v76)) (.br 7 1 35 v62.2 (.cl 8 1 (aT.ok k i1) λv78=>(.ret v78)) (.seg (O:=Bool) 20000410000010 (.bq 10 1 41 false (i1.Op=12) (.ret (.inl true)) (.bq 11 1 41 false (i1.Op=13) (.ret (.inl true)) (.bq 12 1 41 false (i1.Op=16) (.ret (.inl true)) (.bq 13 1 41 false (i1.Op=18) (.ret (.inl true)) (.bq 14 1 41 false (i1.Op=32) (.ret (.inl true)) (.bq 15 1 41 false (i1.Op=33) (.ret (.inl true)) (.bq 16 1 41 false (i1.Op=34) (.ret (.inl true)) (.bq 17 1 41 false (i1.Op=35) (.ret (.inl true)) (.bq 18 1 41 false (i1.Op=36) (.ret (.inl true)) (.bq 19 1 41 false (i1.Op=63) (.ret (.inl true)) (.bq 20 1 41 false (i1.Op=64) (.ret (.inl true)) (.bq 21 1 41 false (i1.Op=64521) (.ret (.inl true)) (.bq 22 1 41 false (i1.Op=64523) (.ret (.inl true)) (.ret (.inl false))))))))))))))) (λv94=>⟨mk 81 [(1,.p 0 5 0 0),(40,.i i1.Op),(41,.b v94)],[bp 5 [.i i1.Op,.i i1.A,.i i1.B,.int .u64 i1.N,.l 1 (eI .i64) i1.L]]⟩) λv94=>(.br 2000041 900 41 v94 (.cl 23 2 (ap.ok k i1.A) λv96=>(.ret v96)) (.bq 24 1 58 false (i1.Op=14) (.cl 25 2 (bu.ok k i1.L) λv98=>(.ret v98)) (.bq 26 1 63 false (i1.Op=64520) (.cl 27 2 (ap.ok k i1.B) λv100=>(.cl 27 5 (ap.ok k i1.A) λv102=>(.ch 27 6 (aad (v100.length+v102.length) 1) (aaa 1 v100.length v102 (mX (eI .u8) v102)) (.rS 27 6 71 (aac 3 1 v100 v102 (mX (eI .u8) v102)) (.rB 27 6 3 (aab 1 (eI .u8) v100 v102 (mX (eI .u8) v102)) (.ret (v100++v102))))))) (.bq 28 1 72 false (i1.Op=64522) (.cl 29 2 (ap.ok k i1.A) λv104=>(.cl 29 5 (ap.ok k i1.B) λv106=>(.ch 29 6 (aad (v104.length+v106.length) 1) (aaa 1 v104.length v106 (mX (eI .u8) v106)) (.rS 29 6 80 (aac 3 1 v104 v106 (mX (eI .u8) v106)) (.rB 29 6 3 (aab 1 (eI .u8) v104 v106 (mX (eI .u8) v106)) (.ret (v104++v106))))))) (.ret ([]:LI)))))))))))))
theorem bL.ok:op k 136 ([.agp [.i i1.Op,.i i1.A,.i i1.B,.int .u64 i1.N,.l 1 (eI .i64) i1.L]],[]) (λv107=>(.o 0 1 v107.length,[bl 1 (eI .u8) v107])) (bL.f k i1):=by apply oP (bL.s · i1) k
end
def aJ.b3(k:Nat)(h1:LIn):(Int×LI)->Option ((Int×LI)⊕(LI)):=λ(x88,h89)=>(if x88<(h1.length:Int)then(if(0:Int)<=x88/\x88<(h1.length:Int)then(h1[(x88).toNat]?.bind λe122=>(segB (if e122.Op≥64512 then(if aad (h89.length+1) 1 then((ap.f k (isub .i64 e122.Op 64512)).bind λr127=>(if aad ((h89++([(252:Int)]:LI)).length+r127.length) 1 then(some (.inl ((h89++([(252:Int)]:LI))++r127)))else none))else none)else(if aad (h89.length+1) 1 then(some (.inl (h89++([(icv .u8 e122.Op)]:LI))))else none)) (λh126=>((bL.f k e122).bind λr130=>(if aad (h126.length+r130.length) 1 then(some (.inl ((iadd .i64 x88 1),(h126++r130))))else none)))))else none)else(some (.inr h89)))
def aJ.f:Nat->LIn->Option (LI)
 | 0,_=>none
 | k+1,h1=>((loopS (aJ.b3 k h1) k ((0:Int),([]:LI))).bind λh110=>(some h110))
section
variable(k:Nat)(h1:LIn)
noncomputable def aJ.s:Sc (LI):=(.loop (V:=Int×LI) (O:=LI) 3 ((0:Int),([]:LI)) (λv111=>⟨mk 35 [(3,.o 1 1 v111.2.length),(6,.o 0 5 h1.length),(7,.i (h1.length:Int)),(8,.i v111.1)],[bl 5 ag.e h1,bl 1 (eI .u8) v111.2]⟩) (λv111=>(.bq 3 0 9 false (v111.1<(h1.length:Int)) (.ck 4 0 [(0:Int)<=v111.1,v111.1<(h1.length:Int)] (.op 4 1 (Rd.ld 5 ag.e h1 ((v111.1).toNat)) λv123=>(.seg (O:=LI) 8 (.bq 5 2 14 false (v123.Op≥64512) (.ch 6 2 (aad (v111.2.length+1) 1) (aaa 1 v111.2.length ([(252:Int)]:LI) (mX (eI .u8) ([(252:Int)]:LI))) (.rS 6 2 17 (aac 4 1 v111.2 ([(252:Int)]:LI) (mX (eI .u8) ([(252:Int)]:LI))) (.rB 6 2 4 (aab 1 (eI .u8) v111.2 ([(252:Int)]:LI) (mX (eI .u8) ([(252:Int)]:LI))) (.cl 6 6 (ap.ok k (isub .i64 v123.Op 64512)) λv128=>(.ch 6 7 (aad ((v111.2++([(252:Int)]:LI)).length+v128.length) 1) (aaa 1 (v111.2++([(252:Int)]:LI)).length v128 (mX (eI .u8) v128)) (.rS 6 7 22 (aac 6 1 (v111.2++([(252:Int)]:LI)) v128 (mX (eI .u8) v128)) (.rB 6 7 6 (aab 1 (eI .u8) (v111.2++([(252:Int)]:LI)) v128 (mX (eI .u8) v128)) (.ret (.inl ((v111.2++([(252:Int)]:LI))++v128)))))))))) (.ch 7 5 (aad (v111.2.length+1) 1) (aaa 1 v111.2.length ([(icv .u8 v123.Op)]:LI) (mX (eI .u8) ([(icv .u8 v123.Op)]:LI))) (.rS 7 5 28 (aac 4 1 v111.2 ([(icv .u8 v123.Op)]:LI) (mX (eI .u8) ([(icv .u8 v123.Op)]:LI))) (.rB 7 5 4 (aab 1 (eI .u8) v111.2 ([(icv .u8 v123.Op)]:LI) (mX (eI .u8) ([(icv .u8 v123.Op)]:LI))) (.ret (.inl (v111.2++([(icv .u8 v123.Op)]:LI)))))))) (λv129=>⟨mk 35 [(3,.o 1 1 v129.length),(5,.p 2 5 0 0),(6,.o 0 5 h1.length),(7,.i (h1.length:Int)),(8,.i v111.1)],[bl 5 ag.e h1,bl 1 (eI .u8) v129,bp 5 [.i v123.Op,.i v123.A,.i v123.B,.int .u64 v123.N,.l 1 (eI .i64) v123.L]]⟩) λv129=>(.cl 8 2 (bL.ok k v123) λv131=>(.ch 8 3 (aad (v129.length+v131.length) 1) (aaa 1 v129.length v131 (mX (eI .u8) v131)) (.rS 8 3 32 (aac 4 1 v129 v131 (mX (eI .u8) v131)) (.rB 8 3 4 (aab 1 (eI .u8) v129 v131 (mX (eI .u8) v131)) (.ret (.inl ((iadd .i64 v111.1 1),(v129++v131))))))))))) (.ret (.inr v111.2)))) (.exit 0) (λv132=>⟨mk 35 [(3,.o 1 1 v132.length)],[bl 5 ag.e h1,bl 1 (eI .u8) v132]⟩) λv132=>(.ret v132))
theorem aJ.ok:op k 43 ([.o 0 5 h1.length],[bl 5 ag.e h1]) (λv133=>(.o 1 1 v133.length,[bl 5 ag.e h1,bl 1 (eI .u8) v133])) (aJ.f k h1):=by apply oP (aJ.s · h1) k
end
def cr.f:Nat->Int->Int->Option (LI)
 | 0,_,_=>none
 | k+1,t1,v2=>(segB (if t1=126 then(some (.inl (66:Int)))else(if t1=124 then(some (.inl (68:Int)))else(some (.inl (65:Int))))) (λop8=>((aJ.f k ([(ag.mk op8 (0:Int) (0:Int) v2 ([]:LI))]:LIn)).bind λr10=>(if aad (r10.length+1) 1 then(some (r10++([(11:Int)]:LI)))else none))))
section
variable(k:Nat)(t1 v2:Int)
noncomputable def cr.s:Sc (LI):=(.seg (O:=Int) 7 (.bq 3 1 7 false (t1=126) (.ret (.inl (66:Int))) (.bq 5 1 9 false (t1=124) (.ret (.inl (68:Int))) (.ret (.inl (65:Int))))) (λv9=>⟨mk 18 [(1,.c (.v (.int .u64 v2))),(5,.i v9)],[]⟩) λv9=>(.cl 7 4 (aJ.ok k ([(ag.mk v9 (0:Int) (0:Int) v2 ([]:LI))]:LIn)) λv11=>(.ch 7 6 (aad (v11.length+1) 1) (aaa 1 v11.length ([(11:Int)]:LI) (mX (eI .u8) ([(11:Int)]:LI))) (.rS 7 6 17 (aac 3 1 v11 ([(11:Int)]:LI) (mX (eI .u8) ([(11:Int)]:LI))) (.rB 7 6 3 (aab 1 (eI .u8) v11 ([(11:Int)]:LI) (mX (eI .u8) ([(11:Int)]:LI))) (.ret (v11++([(11:Int)]:LI))))))))
theorem cr.ok:op k 240 ([.i t1,.c (.v (.int .u64 v2))],[]) (λv12=>(.o 0 1 v12.length,[bl 1 (eI .u8) v12])) (cr.f k t1 v2):=by apply oP (cr.s · t1 v2) k
end
def du.f:Nat->ai->Option (LI)
 | 0,_=>none
 | k+1,g1=>(segB (if g1.Var=true then(some (.inl (1:Int)))else(some (.inl (0:Int)))) (λset7=>((cr.f k g1.fType g1.Init).bind λr9=>(if aad (2+r9.length) 1 then(some (([(icv .u8 g1.fType),set7]:LI)++r9))else none))))
section
variable(k:Nat)(g1:ai)
noncomputable def du.s:Sc (LI):=(.seg (O:=Int) 4 (.br 2 1 5 g1.Var (.ret (.inl (1:Int))) (.ret (.inl (0:Int)))) (λv8=>⟨mk 17 [(1,.p 0 3 0 0),(3,.c (.v (.int .u8 v8)))],[bp 3 [.i g1.fType,.bool g1.Var,.int .u64 g1.Init]]⟩) λv8=>(.cl 4 9 (cr.ok k g1.fType g1.Init) λv10=>(.ch 4 10 (aad (2+v10.length) 1) (aaa 1 ([(icv .u8 g1.fType),v8]:LI).length v10 (mX (eI .u8) v10)) (.rS 4 10 16 (aac 3 1 ([(icv .u8 g1.fType),v8]:LI) v10 (mX (eI .u8) v10)) (.rB 4 10 3 (aab 1 (eI .u8) ([(icv .u8 g1.fType),v8]:LI) v10 (mX (eI .u8) v10)) (.ret (([(icv .u8 g1.fType),v8]:LI)++v10)))))))
theorem du.ok:op k 152 ([.agp [.i g1.fType,.bool g1.Var,.int .u64 g1.Init]],[]) (λv11=>(.o 0 1 v11.length,[bl 1 (eI .u8) v11])) (du.f k g1):=by apply oP (du.s · g1) k
end
def bP.b5(k:Nat)(l1:LGl):(Int×LI)->Option ((Int×LI)⊕(LI)):=λ(x28,h29)=>(if x28<(l1.length:Int)then((at? l1 x28).bind λe36=>((du.f k e36).bind λr38=>(if aad (h29.length+r38.length) 1 then(some (.inl ((iadd .i64 x28 1),(h29++r38))))else none)))else(some (.inr h29)))
def bP.f:Nat->LGl->Option (LI)
 | 0,_=>none
 | k+1,l1=>(if(l1.length:Int)=0 then(some ([]:LI))else((ap.f k (l1.length:Int)).bind λr22=>((loopS (bP.b5 k l1) k ((0:Int),r22)).bind λh34=>(some h34))))
section
variable(k:Nat)(l1:LGl)
noncomputable def bP.s:Sc (LI):=(.rS 1 1 9 (lm ai.e l1) (.bq 1 2 10 false ((l1.length:Int)=0) (.ret ([]:LI)) (.rS 3 1 12 (lm ai.e l1) (.cl 3 2 (ap.ok k (l1.length:Int)) λv23=>(.rS 4 1 15 (lm ai.e l1) (.loop (V:=Int×LI) (O:=LI) 5 ((0:Int),v23) (λv35=>⟨mk 27 [(1,.c (.v (.fn 152 []))),(5,.o 0 1 v35.2.length),(14,.l 3 ai.e l1),(15,.i (l1.length:Int)),(16,.i v35.1)],[bl 1 (eI .u8) v35.2]⟩) (λv35=>(.bq 5 0 17 false (v35.1<(l1.length:Int)) (.op 6 0 (Rd.el ai.e l1 v35.1) λv37=>(.cl 7 3 (du.ok k v37) λv39=>(.ch 7 4 (aad (v35.2.length+v39.length) 1) (aaa 1 v35.2.length v39 (mX (eI .u8) v39)) (.rS 7 4 24 (aac 3 1 v35.2 v39 (mX (eI .u8) v39)) (.rB 7 4 3 (aab 1 (eI .u8) v35.2 v39 (mX (eI .u8) v39)) (.ret (.inl ((iadd .i64 v35.1 1),(v35.2++v39))))))))) (.ret (.inr v35.2)))) (.exit 0) (λv40=>⟨mk 27 [(5,.o 0 1 v40.length)],[bl 1 (eI .u8) v40]⟩) λv40=>(.ret v40)))))))
theorem bP.ok:op k 151 ([.l 3 ai.e l1,.c (.v (.fn 152 []))],[]) (λv41=>(.o 0 1 v41.length,[bl 1 (eI .u8) v41])) (bP.f k l1):=by apply oP (bP.s · l1) k
end
def cQ.f:Nat->ae->Option (LI)
 | 0,_=>none
 | k+1,x1=>((bg.f k x1.Name).bind λr9=>((ap.f k x1.Index).bind λr11=>((aS.f k r9 ([(icv .u8 x1.Kind)]:LI) r11).bind λr13=>(some r13))))
section
variable(k:Nat)(x1:ae)
noncomputable def cQ.s:Sc (LI):=(.cl 1 2 (bg.ok k x1.Name) λv10=>(.cl 1 9 (ap.ok k x1.Index) λv12=>(.cl 1 11 (aS.ok k v10 ([(icv .u8 x1.Kind)]:LI) v12) λv14=>(.ret v14))))
theorem cQ.ok:op k 154 ([.agp [.str x1.Name,.i x1.Kind,.i x1.Index]],[]) (λv15=>(.o 0 1 v15.length,[bl 1 (eI .u8) v15])) (cQ.f k x1):=by apply oP (cQ.s · x1) k
end
def bI.b5(k:Nat)(l1:LEx):(Int×LI)->Option ((Int×LI)⊕(LI)):=λ(x28,h29)=>(if x28<(l1.length:Int)then((at? l1 x28).bind λe36=>((cQ.f k e36).bind λr38=>(if aad (h29.length+r38.length) 1 then(some (.inl ((iadd .i64 x28 1),(h29++r38))))else none)))else(some (.inr h29)))
def bI.f:Nat->LEx->Option (LI)
 | 0,_=>none
 | k+1,l1=>(if(l1.length:Int)=0 then(some ([]:LI))else((ap.f k (l1.length:Int)).bind λr22=>((loopS (bI.b5 k l1) k ((0:Int),r22)).bind λh34=>(some h34))))
section
variable(k:Nat)(l1:LEx)
noncomputable def bI.s:Sc (LI):=(.rS 1 1 9 (lm ae.e l1) (.bq 1 2 10 false ((l1.length:Int)=0) (.ret ([]:LI)) (.rS 3 1 12 (lm ae.e l1) (.cl 3 2 (ap.ok k (l1.length:Int)) λv23=>(.rS 4 1 15 (lm ae.e l1) (.loop (V:=Int×LI) (O:=LI) 5 ((0:Int),v23) (λv35=>⟨mk 27 [(1,.c (.v (.fn 154 []))),(5,.o 0 1 v35.2.length),(14,.l 3 ae.e l1),(15,.i (l1.length:Int)),(16,.i v35.1)],[bl 1 (eI .u8) v35.2]⟩) (λv35=>(.bq 5 0 17 false (v35.1<(l1.length:Int)) (.op 6 0 (Rd.el ae.e l1 v35.1) λv37=>(.cl 7 3 (cQ.ok k v37) λv39=>(.ch 7 4 (aad (v35.2.length+v39.length) 1) (aaa 1 v35.2.length v39 (mX (eI .u8) v39)) (.rS 7 4 24 (aac 3 1 v35.2 v39 (mX (eI .u8) v39)) (.rB 7 4 3 (aab 1 (eI .u8) v35.2 v39 (mX (eI .u8) v39)) (.ret (.inl ((iadd .i64 v35.1 1),(v35.2++v39))))))))) (.ret (.inr v35.2)))) (.exit 0) (λv40=>⟨mk 27 [(5,.o 0 1 v40.length)],[bl 1 (eI .u8) v40]⟩) λv40=>(.ret v40)))))))
theorem bI.ok:op k 153 ([.l 3 ae.e l1,.c (.v (.fn 154 []))],[]) (λv41=>(.o 0 1 v41.length,[bl 1 (eI .u8) v41])) (bI.f k l1):=by apply oP (bI.s · l1) k
end
def cK.f:Nat->ag->Option (Bool)
 | 0,_=>none
 | k+1,i1=>(if i1.Op=64520 then(some true)else(some (decide (i1.Op=64521))))
section
variable(k:Nat)(i1:ag)
noncomputable def cK.s:Sc (Bool):=(.bq 1 3 6 false (i1.Op=64520) (.ret true) (.ret (decide (i1.Op=64521))))
theorem cK.ok:op k 242 ([.agp [.i i1.Op,.i i1.A,.i i1.B,.int .u64 i1.N,.l 1 (eI .i64) i1.L]],[]) (λv3=>(.b v3,[])) (cK.f k i1):=by apply oB (λ_=>cK.s i1) k
end
def bw.b2(k:Nat)(s1:LIn):Int->Option (Int⊕(Unit⊕Int)):=λx40=>(if x40<(s1.length:Int)then((at? s1 x40).bind λe55=>((cK.f k e55).bind λr57=>(if r57=true then(some (.inr (.inr x40)))else(some (.inl (iadd .i64 x40 1))))))else(some (.inr (.inl ()))))
def bw.f:Nat->LIn->Option (Int)
 | 0,_=>none
 | k+1,s1=>(altB (loopS (bw.b2 k s1) k (0:Int)) (λ_=>(some (-1:Int))) (λx49=>(some x49)))
section
variable(k:Nat)(s1:LIn)
noncomputable def bw.s:Sc (Int):=(.rS 1 1 7 (lm ag.e s1) (.loop2 (V:=Int) (O:=Unit) (O2:=Int) 2 (0:Int) (λv50=>⟨mk 19 [(0,.l 5 ag.e s1),(1,.c (.v (.fn 242 []))),(7,.i (s1.length:Int)),(8,.i v50)],[]⟩) (λv50=>(.bq 2 0 9 false (v50<(s1.length:Int)) (.op 4 3 (Rd.el ag.e s1 v50) λv56=>(.cl 4 5 (cK.ok k v56) λv58=>(.br 4 5 16 v58 (.ret (.inr (.inr v50))) (.ret (.inl (iadd .i64 v50 1)))))) (.ret (.inr (.inl ()))))) (.exit 0) (λv59=>⟨mk 19 [],[]⟩) (λv59=>(.ret (-1:Int))) .ret (λv60=>⟨mk 19 [(4,.i v60)],[]⟩) λv60=>(.ret v60)))
theorem bw.ok:op k 273 ([.l 5 ag.e s1,.c (.v (.fn 242 []))],[]) (λv61=>(.i v61,[])) (bw.f k s1):=by apply oB (bw.s · s1) k
end
def bB.f:Nat->LIn->Option (Bool)
 | 0,_=>none
 | k+1,s1=>((bw.f k s1).bind λr5=>(some (decide (r5≥0))))
section
variable(k:Nat)(s1:LIn)
noncomputable def bB.s:Sc (Bool):=(.cl 1 2 (bw.ok k s1) λv6=>(.ret (decide (v6≥0))))
theorem bB.ok:op k 198 ([.l 5 ag.e s1,.c (.v (.fn 242 []))],[]) (λv7=>(.b v7,[])) (bB.f k s1):=by apply oB (bB.s · s1) k
end
def dz.f:Nat->aj->Option (Bool)
 | 0,_=>none
 | k+1,f1=>((bB.f k f1.Code).bind λr5=>(some r5))
section
variable(k:Nat)(f1:aj)
noncomputable def dz.s:Sc (Bool):=(.cl 1 2 (bB.ok k f1.Code) λv6=>(.ret v6))
theorem dz.ok:op k 241 ([.agp [.i f1.fType,.l 1 (eI .i64) f1.Locals,.l 5 ag.e f1.Code]],[]) (λv7=>(.b v7,[])) (dz.f k f1):=by apply oB (dz.s · f1) k
end
def bv.b2(k:Nat)(s1:LFu):Int->Option (Int⊕(Unit⊕Int)):=λx40=>(if x40<(s1.length:Int)then((at? s1 x40).bind λe55=>((dz.f k e55).bind λr57=>(if r57=true then(some (.inr (.inr x40)))else(some (.inl (iadd .i64 x40 1))))))else(some (.inr (.inl ()))))
def bv.f:Nat->LFu->Option (Int)
 | 0,_=>none
 | k+1,s1=>(altB (loopS (bv.b2 k s1) k (0:Int)) (λ_=>(some (-1:Int))) (λx49=>(some x49)))
section
variable(k:Nat)(s1:LFu)
noncomputable def bv.s:Sc (Int):=(.rS 1 1 7 (lm aj.e s1) (.loop2 (V:=Int) (O:=Unit) (O2:=Int) 2 (0:Int) (λv50=>⟨mk 19 [(0,.l 3 aj.e s1),(1,.c (.v (.fn 241 []))),(7,.i (s1.length:Int)),(8,.i v50)],[]⟩) (λv50=>(.bq 2 0 9 false (v50<(s1.length:Int)) (.op 4 3 (Rd.el aj.e s1 v50) λv56=>(.cl 4 5 (dz.ok k v56) λv58=>(.br 4 5 16 v58 (.ret (.inr (.inr v50))) (.ret (.inl (iadd .i64 v50 1)))))) (.ret (.inr (.inl ()))))) (.exit 0) (λv59=>⟨mk 19 [],[]⟩) (λv59=>(.ret (-1:Int))) .ret (λv60=>⟨mk 19 [(4,.i v60)],[]⟩) λv60=>(.ret v60)))
theorem bv.ok:op k 272 ([.l 3 aj.e s1,.c (.v (.fn 241 []))],[]) (λv61=>(.i v61,[])) (bv.f k s1):=by apply oP (bv.s · s1) k
end
def bA.f:Nat->LFu->Option (Bool)
 | 0,_=>none
 | k+1,s1=>((bv.f k s1).bind λr5=>(some (decide (r5≥0))))
section
variable(k:Nat)(s1:LFu)
noncomputable def bA.s:Sc (Bool):=(.cl 1 2 (bv.ok k s1) λv6=>(.ret (decide (v6≥0))))
theorem bA.ok:op k 196 ([.l 3 aj.e s1,.c (.v (.fn 241 []))],[]) (λv7=>(.b v7,[])) (bA.f k s1):=by apply oP (bA.s · s1) k
end
def dH.f:Nat->an->Option (Bool)
 | 0,_=>none
 | k+1,m1=>((bA.f k m1.Funcs).bind λr5=>(some r5))
section
variable(k:Nat)(m1:an)
noncomputable def dH.s:Sc (Bool):=(.cl 1 2 (bA.ok k m1.Funcs) λv6=>(.ret v6))
theorem dH.ok:op k 155 ([.agp (w6 m1)],[]) (λv7=>(.b v7,[])) (dH.f k m1):=by apply oB (dH.s · m1) k
end
def aZ.b6(k:Nat)(l1:LI)(i141:Int):Int->Option (Int⊕Int):=λk186=>(if k186<(l1.length:Int)then((at? l1 k186).bind λe201=>((at? l1 i141).bind λe203=>(if e201=e203 then(some (.inl (iadd .i64 k186 1)))else(some (.inr k186)))))else(some (.inr k186)))
def aZ.b4(k:Nat)(l1:LI):(Int×Int×LI)->Option ((Int×Int×LI)⊕(Int×LI)):=λ(n140,i141,h142)=>(if i141<(l1.length:Int)then((loopS (aZ.b6 k l1 i141) k i141).bind λk195=>((at? l1 i141).bind λe206=>((ap.f k (isub .i64 k195 i141)).bind λr208=>(if aad (h142.length+r208.length) 1 then(if aad ((h142++r208).length+1) 1 then(some (.inl ((iadd .i64 n140 1),k195,((h142++r208)++([(icv .u8 e206)]:LI)))))else none)else none))))else(some (.inr (n140,h142))))
def aZ.f:Nat->LI->Option (LI)
 | 0,_=>none
 | k+1,l1=>((loopS (aZ.b4 k l1) k ((0:Int),(0:Int),([]:LI))).bind λ(n175,h176)=>((bf.f k n175 h176).bind λr211=>(some r211)))
section
variable(k:Nat)(l1:LI)
noncomputable def aZ.s:Sc (LI):=(.loop (V:=Int×Int×LI) (O:=Int×LI) 4 ((0:Int),(0:Int),([]:LI)) (λv177=>⟨mk 48 [(0,.l 1 (eI .i64) l1),(3,.o 0 1 v177.l2.length),(4,.i v177.1),(5,.i v177.q1)],[bl 1 (eI .u8) v177.l2]⟩) (λv177=>(.rS 4 2 9 (lm (eI .i64) l1) (.bq 4 3 10 false (v177.q1<(l1.length:Int)) (.loop (V:=Int) (O:=Int) 6 v177.q1 (λv196=>⟨mk 48 [(0,.l 1 (eI .i64) l1),(3,.o 0 1 v177.l2.length),(4,.i v177.1),(5,.i v177.q1),(6,.i v196)],[bl 1 (eI .u8) v177.l2]⟩) (λv196=>(.rS 6 2 14 (lm (eI .i64) l1) (.bq 6 4 16 false (v196<(l1.length:Int)) (.op 6 7 (Rd.el (eI .i64) l1 v196) λv202=>(.op 6 11 (Rd.el (eI .i64) l1 v177.q1) λv204=>(.bq 6 14 26 false (v202=v204) (.ret (.inl (iadd .i64 v196 1))) (.ret (.inr v196))))) (.ret (.inr v196))))) (.exit 2) (λv205=>⟨mk 48 [(0,.l 1 (eI .i64) l1),(3,.o 0 1 v177.l2.length),(4,.i v177.1),(5,.i v177.q1),(6,.i v205)],[bl 1 (eI .u8) v177.l2]⟩) λv205=>(.op 8 8 (Rd.el (eI .i64) l1 v177.q1) λv207=>(.cl 8 4 (ap.ok k (isub .i64 v205 v177.q1)) λv209=>(.ch 8 5 (aad (v177.l2.length+v209.length) 1) (aaa 1 v177.l2.length v209 (mX (eI .u8) v209)) (.rS 8 5 34 (aac 3 1 v177.l2 v209 (mX (eI .u8) v209)) (.rB 8 5 3 (aab 1 (eI .u8) v177.l2 v209 (mX (eI .u8) v209)) (.ch 8 12 (aad ((v177.l2++v209).length+1) 1) (aaa 1 (v177.l2++v209).length ([(icv .u8 v207)]:LI) (mX (eI .u8) ([(icv .u8 v207)]:LI))) (.rS 8 12 41 (aac 4 1 (v177.l2++v209) ([(icv .u8 v207)]:LI) (mX (eI .u8) ([(icv .u8 v207)]:LI))) (.rB 8 12 4 (aab 1 (eI .u8) (v177.l2++v209) ([(icv .u8 v207)]:LI) (mX (eI .u8) ([(icv .u8 v207)]:LI))) (.ret (.inl ((iadd .i64 v177.1 1),v205,((v177.l2++v209)++([(icv .u8 v207)]:LI)))))))))))))) (.ret (.inr (v177.1,v177.l2)))))) (.exit 0) (λv210=>⟨mk 48 [(3,.o 0 1 v210.2.length),(4,.i v210.1)],[bl 1 (eI .u8) v210.2]⟩) λv210=>(.cl 11 2 (bf.ok k v210.1 v210.2) λv212=>(.ret v212)))
theorem aZ.ok:op k 243 ([.l 1 (eI .i64) l1],[]) (λv213=>(.o 0 1 v213.length,[bl 1 (eI .u8) v213])) (aZ.f k l1):=by apply oP (aZ.s · l1) k
end
def bx.b3(k:Nat)(l1:LIn):(Int×LI)->Option ((Int×LI)⊕(LI)):=λ(x88,h89)=>(if x88<(l1.length:Int)then((at? l1 x88).bind λe122=>(segB (if e122.Op≥64512 then(if aad (h89.length+1) 1 then((ap.f k (isub .i64 e122.Op 64512)).bind λr127=>(if aad ((h89++([(252:Int)]:LI)).length+r127.length) 1 then(some (.inl ((h89++([(252:Int)]:LI))++r127)))else none))else none)else(if aad (h89.length+1) 1 then(some (.inl (h89++([(icv .u8 e122.Op)]:LI))))else none)) (λh126=>((bL.f k e122).bind λr130=>(if aad (h126.length+r130.length) 1 then(some (.inl ((iadd .i64 x88 1),(h126++r130))))else none)))))else(some (.inr h89)))
def bx.f:Nat->LIn->Option (LI)
 | 0,_=>none
 | k+1,l1=>((loopS (bx.b3 k l1) k ((0:Int),([]:LI))).bind λh110=>(some h110))
section
variable(k:Nat)(l1:LIn)
noncomputable def bx.s:Sc (LI):=(.rS 2 1 7 (lm ag.e l1) (.loop (V:=Int×LI) (O:=LI) 3 ((0:Int),([]:LI)) (λv111=>⟨mk 35 [(3,.o 0 1 v111.2.length),(6,.l 5 ag.e l1),(7,.i (l1.length:Int)),(8,.i v111.1)],[bl 1 (eI .u8) v111.2]⟩) (λv111=>(.bq 3 0 9 false (v111.1<(l1.length:Int)) (.op 4 0 (Rd.el ag.e l1 v111.1) λv123=>(.seg (O:=LI) 8 (.bq 5 2 14 false (v123.Op≥64512) (.ch 6 2 (aad (v111.2.length+1) 1) (aaa 1 v111.2.length ([(252:Int)]:LI) (mX (eI .u8) ([(252:Int)]:LI))) (.rS 6 2 17 (aac 3 1 v111.2 ([(252:Int)]:LI) (mX (eI .u8) ([(252:Int)]:LI))) (.rB 6 2 3 (aab 1 (eI .u8) v111.2 ([(252:Int)]:LI) (mX (eI .u8) ([(252:Int)]:LI))) (.cl 6 6 (ap.ok k (isub .i64 v123.Op 64512)) λv128=>(.ch 6 7 (aad ((v111.2++([(252:Int)]:LI)).length+v128.length) 1) (aaa 1 (v111.2++([(252:Int)]:LI)).length v128 (mX (eI .u8) v128)) (.rS 6 7 22 (aac 5 1 (v111.2++([(252:Int)]:LI)) v128 (mX (eI .u8) v128)) (.rB 6 7 5 (aab 1 (eI .u8) (v111.2++([(252:Int)]:LI)) v128 (mX (eI .u8) v128)) (.ret (.inl ((v111.2++([(252:Int)]:LI))++v128)))))))))) (.ch 7 5 (aad (v111.2.length+1) 1) (aaa 1 v111.2.length ([(icv .u8 v123.Op)]:LI) (mX (eI .u8) ([(icv .u8 v123.Op)]:LI))) (.rS 7 5 28 (aac 3 1 v111.2 ([(icv .u8 v123.Op)]:LI) (mX (eI .u8) ([(icv .u8 v123.Op)]:LI))) (.rB 7 5 3 (aab 1 (eI .u8) v111.2 ([(icv .u8 v123.Op)]:LI) (mX (eI .u8) ([(icv .u8 v123.Op)]:LI))) (.ret (.inl (v111.2++([(icv .u8 v123.Op)]:LI)))))))) (λv129=>⟨mk 35 [(3,.o 0 1 v129.length),(5,.p 1 5 0 0),(6,.l 5 ag.e l1),(7,.i (l1.length:Int)),(8,.i v111.1)],[bl 1 (eI .u8) v129,bp 5 [.i v123.Op,.i v123.A,.i v123.B,.int .u64 v123.N,.l 1 (eI .i64) v123.L]]⟩) λv129=>(.cl 8 2 (bL.ok k v123) λv131=>(.ch 8 3 (aad (v129.length+v131.length) 1) (aaa 1 v129.length v131 (mX (eI .u8) v131)) (.rS 8 3 32 (aac 3 1 v129 v131 (mX (eI .u8) v131)) (.rB 8 3 3 (aab 1 (eI .u8) v129 v131 (mX (eI .u8) v131)) (.ret (.inl ((iadd .i64 v111.1 1),(v129++v131)))))))))) (.ret (.inr v111.2)))) (.exit 0) (λv132=>⟨mk 35 [(3,.o 0 1 v132.length)],[bl 1 (eI .u8) v132]⟩) λv132=>(.ret v132)))
theorem bx.ok:op k 43 ([.l 5 ag.e l1],[]) (λv133=>(.o 0 1 v133.length,[bl 1 (eI .u8) v133])) (bx.f k l1):=by apply oP (bx.s · l1) k
end
def dR.f:Nat->aj->Option (LI)
 | 0,_=>none
 | k+1,f1=>((aZ.f k f1.Locals).bind λr9=>((bx.f k f1.Code).bind λr11=>(if aad (r9.length+r11.length) 1 then((bf.f k (((r9++r11)).length:Int) (r9++r11)).bind λr13=>(some r13))else none)))
section
variable(k:Nat)(f1:aj)
noncomputable def dR.s:Sc (LI):=(.cl 1 2 (aZ.ok k f1.Locals) λv10=>(.cl 1 5 (bx.ok k f1.Code) λv12=>(.ch 1 6 (aad (v10.length+v12.length) 1) (aaa 1 v10.length v12 (mX (eI .u8) v12)) (.rS 1 6 10 (aac 3 1 v10 v12 (mX (eI .u8) v12)) (.rB 1 6 3 (aab 1 (eI .u8) v10 v12 (mX (eI .u8) v12)) (.cl 2 3 (bf.ok k (((v10++v12)).length:Int) (v10++v12)) λv14=>(.ret v14)))))))
theorem dR.ok:op k 156 ([.agp [.i f1.fType,.l 1 (eI .i64) f1.Locals,.l 5 ag.e f1.Code]],[]) (λv15=>(.o 0 1 v15.length,[bl 1 (eI .u8) v15])) (dR.f k f1):=by apply oP (dR.s · f1) k
end
def bc.b5(k:Nat)(l1:LFu):(Int×LI)->Option ((Int×LI)⊕(LI)):=λ(x28,h29)=>(if x28<(l1.length:Int)then((at? l1 x28).bind λe36=>((dR.f k e36).bind λr38=>(if aad (h29.length+r38.length) 1 then(some (.inl ((iadd .i64 x28 1),(h29++r38))))else none)))else(some (.inr h29)))
def bc.f:Nat->LFu->Option (LI)
 | 0,_=>none
 | k+1,l1=>(if(l1.length:Int)=0 then(some ([]:LI))else((ap.f k (l1.length:Int)).bind λr22=>((loopS (bc.b5 k l1) k ((0:Int),r22)).bind λh34=>(some h34))))
section
variable(k:Nat)(l1:LFu)
noncomputable def bc.s:Sc (LI):=(.rS 1 1 9 (lm aj.e l1) (.bq 1 2 10 false ((l1.length:Int)=0) (.ret ([]:LI)) (.rS 3 1 12 (lm aj.e l1) (.cl 3 2 (ap.ok k (l1.length:Int)) λv23=>(.rS 4 1 15 (lm aj.e l1) (.loop (V:=Int×LI) (O:=LI) 5 ((0:Int),v23) (λv35=>⟨mk 27 [(1,.c (.v (.fn 156 []))),(5,.o 0 1 v35.2.length),(14,.l 3 aj.e l1),(15,.i (l1.length:Int)),(16,.i v35.1)],[bl 1 (eI .u8) v35.2]⟩) (λv35=>(.bq 5 0 17 false (v35.1<(l1.length:Int)) (.op 6 0 (Rd.el aj.e l1 v35.1) λv37=>(.cl 7 3 (dR.ok k v37) λv39=>(.ch 7 4 (aad (v35.2.length+v39.length) 1) (aaa 1 v35.2.length v39 (mX (eI .u8) v39)) (.rS 7 4 24 (aac 3 1 v35.2 v39 (mX (eI .u8) v39)) (.rB 7 4 3 (aab 1 (eI .u8) v35.2 v39 (mX (eI .u8) v39)) (.ret (.inl ((iadd .i64 v35.1 1),(v35.2++v39))))))))) (.ret (.inr v35.2)))) (.exit 0) (λv40=>⟨mk 27 [(5,.o 0 1 v40.length)],[bl 1 (eI .u8) v40]⟩) λv40=>(.ret v40)))))))
theorem bc.ok:op k 147 ([.l 3 aj.e l1,.c (.v (.fn 156 []))],[]) (λv41=>(.o 0 1 v41.length,[bl 1 (eI .u8) v41])) (bc.f k l1):=by apply oP (bc.s · l1) k
end
def dw.f:Nat->Int->LI->Option (LI)
 | 0,_,_=>none
 | k+1,n1,b2=>((ap.f k n1).bind λr6=>(if aad (r6.length+b2.length) 1 then(some (r6++b2))else none))
section
variable(k:Nat)(n1:Int)(b2:LI)
noncomputable def dw.s:Sc (LI):=(.cl 1 1 (ap.ok k n1) λv7=>(.ch 1 3 (aad (v7.length+b2.length) 1) (aaa 1 v7.length b2 (mX (eI .u8) b2)) (.rS 1 3 8 (aac 1 1 v7 b2 (mX (eI .u8) b2)) (.rB 1 3 1 (aab 1 (eI .u8) v7 b2 (mX (eI .u8) b2)) (.ret (v7++b2))))))
theorem dw.ok:op k 238 ([.i n1,.l 1 (eI .u8) b2],[]) (λv8=>(.o 0 1 v8.length,[bl 1 (eI .u8) v8])) (dw.f k n1 b2):=by apply oP (dw.s · n1 b2) k
end
def dM.f:Nat->aA->Option (LI)
 | 0,_=>none
 | k+1,d1=>((dw.f k (d1.Bytes.length:Int) d1.Bytes).bind λr15=>((cr.f k (127:Int) (iand .u64 (icv .u64 d1.At) 4294967295)).bind λr17=>(if(!d1.Active)=true then(if aad (1+r15.length) 1 then(some (([(1:Int)]:LI)++r15))else none)else(if d1.Mem=0 then((aS.f k ([(0:Int)]:LI) r17 r15).bind λr21=>(some r21))else((ap.f k d1.Mem).bind λr23=>((aP.f k ([(2:Int)]:LI) r23 r17 r15).bind λr25=>(some r25)))))))
section
variable(k:Nat)(d1:aA)
noncomputable def dM.s:Sc (LI):=(.rS 1 2 7 (lm (eI .u8) d1.Bytes) (.cl 1 5 (dw.ok k (d1.Bytes.length:Int) d1.Bytes) λv16=>(.cl 2 4 (cr.ok k (127:Int) (iand .u64 (icv .u64 d1.At) 4294967295)) λv18=>(.br 3 3 16 (!d1.Active) (.ch 4 2 (aad (1+v16.length) 1) (aaa 1 ([(1:Int)]:LI).length v16 (mX (eI .u8) v16)) (.rS 4 2 22 (aac 4 1 ([(1:Int)]:LI) v16 (mX (eI .u8) v16)) (.rB 4 2 4 (aab 1 (eI .u8) ([(1:Int)]:LI) v16 (mX (eI .u8) v16)) (.ret (([(1:Int)]:LI)++v16))))) (.bq 5 3 23 false (d1.Mem=0) (.cl 6 4 (aS.ok k ([(0:Int)]:LI) v18 v16) λv22=>(.ret v22)) (.cl 7 3 (ap.ok k d1.Mem) λv24=>(.cl 7 7 (aP.ok k ([(2:Int)]:LI) v24 v18 v16) λv26=>(.ret v26))))))))
theorem dM.ok:op k 158 ([.agp [.bool d1.Active,.i d1.Mem,.i d1.At,.l 1 (eI .u8) d1.Bytes]],[]) (λv27=>(.o 0 1 v27.length,[bl 1 (eI .u8) v27])) (dM.f k d1):=by apply oP (dM.s · d1) k
end
def bQ.b5(k:Nat)(l1:LDa):(Int×LI)->Option ((Int×LI)⊕(LI)):=λ(x28,h29)=>(if x28<(l1.length:Int)then((at? l1 x28).bind λe36=>((dM.f k e36).bind λr38=>(if aad (h29.length+r38.length) 1 then(some (.inl ((iadd .i64 x28 1),(h29++r38))))else none)))else(some (.inr h29)))
def bQ.f:Nat->LDa->Option (LI)
 | 0,_=>none
 | k+1,l1=>(if(l1.length:Int)=0 then(some ([]:LI))else((ap.f k (l1.length:Int)).bind λr22=>((loopS (bQ.b5 k l1) k ((0:Int),r22)).bind λh34=>(some h34))))
section
variable(k:Nat)(l1:LDa)
noncomputable def bQ.s:Sc (LI):=(.rS 1 1 9 (lm aA.e l1) (.bq 1 2 10 false ((l1.length:Int)=0) (.ret ([]:LI)) (.rS 3 1 12 (lm aA.e l1) (.cl 3 2 (ap.ok k (l1.length:Int)) λv23=>(.rS 4 1 15 (lm aA.e l1) (.loop (V:=Int×LI) (O:=LI) 5 ((0:Int),v23) (λv35=>⟨mk 27 [(1,.c (.v (.fn 158 []))),(5,.o 0 1 v35.2.length),(14,.l 4 aA.e l1),(15,.i (l1.length:Int)),(16,.i v35.1)],[bl 1 (eI .u8) v35.2]⟩) (λv35=>(.bq 5 0 17 false (v35.1<(l1.length:Int)) (.op 6 0 (Rd.el aA.e l1 v35.1) λv37=>(.cl 7 3 (dM.ok k v37) λv39=>(.ch 7 4 (aad (v35.2.length+v39.length) 1) (aaa 1 v35.2.length v39 (mX (eI .u8) v39)) (.rS 7 4 24 (aac 3 1 v35.2 v39 (mX (eI .u8) v39)) (.rB 7 4 3 (aab 1 (eI .u8) v35.2 v39 (mX (eI .u8) v39)) (.ret (.inl ((iadd .i64 v35.1 1),(v35.2++v39))))))))) (.ret (.inr v35.2)))) (.exit 0) (λv40=>⟨mk 27 [(5,.o 0 1 v40.length)],[bl 1 (eI .u8) v40]⟩) λv40=>(.ret v40)))))))
theorem bQ.ok:op k 157 ([.l 4 aA.e l1,.c (.v (.fn 158 []))],[]) (λv41=>(.o 0 1 v41.length,[bl 1 (eI .u8) v41])) (bQ.f k l1):=by apply oP (bQ.s · l1) k
end
def eF.f:Nat->LI->Option (Nat)
 | 0,_=>none
 | k+1,h1=>(if(0:Int)<=(h1.length:Int)/\(0:Int)<=(h1.length:Int)/\(0:Nat)<=((h1.length:Int)).toNat/\(((h1.length:Int)).toNat:Nat)<=h1.length/\(((h1.length:Int)).toNat:Nat)<=((h1.length:Int)).toNat/\(((h1.length:Int)).toNat:Nat)<=h1.length/\0<h1.length then(some (((h1.length:Int)).toNat-0))else none)
section
variable(k:Nat)(h1:LI)
noncomputable def eF.s:Sc (Nat):=(.ck 1 5 [(0:Int)<=(h1.length:Int),(0:Int)<=(h1.length:Int),(0:Nat)<=((h1.length:Int)).toNat,(((h1.length:Int)).toNat:Nat)<=h1.length,(((h1.length:Int)).toNat:Nat)<=((h1.length:Int)).toNat,(((h1.length:Int)).toNat:Nat)<=h1.length,0<h1.length] (.ret (((h1.length:Int)).toNat-0)))
theorem eF.ok:op k 159 ([.o 0 1 h1.length],[bl 1 (eI .u8) h1]) (λv3=>(.c (.sl 0 1 0 v3 (some v3)),[bl 1 (eI .u8) h1])) (eF.f k h1):=by apply oP (λ_=>eF.s h1) k
end
def aM.b5(k:Nat)(m1:an):Int->Option (Int⊕(Unit⊕Int)):=λx136=>(if x136<(m1.Funcs.length:Int)then((at? m1.Funcs x136).bind λe154=>((bt.f k e154.Code).bind λ(r156,r157)=>(if r156=0 then(some (.inl (iadd .i64 x136 1)))else(some (.inr (.inr r156))))))else(some (.inr (.inl ()))))
def aM.b23(k:Nat)(m1:an):(Int×LI)->Option ((Int×LI)⊕(LI)):=λ(x220,h221)=>(if x220<(m1.Customs.length:Int)then((at? m1.Customs x220).bind λe230=>((bg.f k e230.Name).bind λr232=>(if aad (r232.length+e230.Bytes.length) 1 then((av.f k (0:Int) (r232++e230.Bytes)).bind λr234=>(if aad (h221.length+r234.length) 1 then(some (.inl ((iadd .i64 x220 1),(h221++r234))))else none))else none)))else(some (.inr h221)))
def aM.f:Nat->an->Option (Int×LI)
 | 0,_=>none
 | k+1,m1=>((dr.f k m1).bind λr124=>(if r124=0 then(altB (loopS (aM.b5 k m1) k (0:Int)) (λ_=>((bO.f k m1.Types).bind λr160=>((av.f k (1:Int) r160).bind λr162=>(if aad (8+r162.length) 1 then((bK.f k m1.Imports).bind λr164=>((av.f k (2:Int) r164).bind λr166=>(if aad ((([(0:Int),(97:Int),(115:Int),(109:Int),(1:Int),(0:Int),(0:Int),(0:Int)]:LI)++r162).length+r166.length) 1 then((bJ.f k m1.Funcs).bind λr168=>((av.f k (3:Int) r168).bind λr170=>(if aad (((([(0:Int),(97:Int),(115:Int),(109:Int),(1:Int),(0:Int),(0:Int),(0:Int)]:LI)++r162)++r166).length+r170.length) 1 then((bR.f k m1.Mems).bind λr172=>((av.f k (5:Int) r172).bind λr174=>(if aad ((((([(0:Int),(97:Int),(115:Int),(109:Int),(1:Int),(0:Int),(0:Int),(0:Int)]:LI)++r162)++r166)++r170).length+r174.length) 1 then((bP.f k m1.Globals).bind λr176=>((av.f k (6:Int) r176).bind λr178=>(if aad (((((([(0:Int),(97:Int),(115:Int),(109:Int),(1:Int),(0:Int),(0:Int),(0:Int)]:LI)++r162)++r166)++r170)++r174).length+r178.length) 1 then((bI.f k m1.Exports).bind λr180=>((av.f k (7:Int) r180).bind λr182=>(if aad ((((((([(0:Int),(97:Int),(115:Int),(109:Int),(1:Int),(0:Int),(0:Int),(0:Int)]:LI)++r162)++r166)++r170)++r174)++r178).length+r182.length) 1 then(segB (if(m1.Datas.length:Int)>0 then((ap.f k (m1.Datas.length:Int)).bind λr195=>((av.f k (12:Int) r195).bind λr197=>(if aad (((((((([(0:Int),(97:Int),(115:Int),(109:Int),(1:Int),(0:Int),(0:Int),(0:Int)]:LI)++r162)++r166)++r170)++r174)++r178)++r182).length+r197.length) 1 then(some (.inl (((((((([(0:Int),(97:Int),(115:Int),(109:Int),(1:Int),(0:Int),(0:Int),(0:Int)]:LI)++r162)++r166)++r170)++r174)++r178)++r182)++r197)))else none)))else((dH.f k m1).bind λr199=>(if r199=true then((ap.f k (m1.Datas.length:Int)).bind λr201=>((av.f k (12:Int) r201).bind λr203=>(if aad (((((((([(0:Int),(97:Int),(115:Int),(109:Int),(1:Int),(0:Int),(0:Int),(0:Int)]:LI)++r162)++r166)++r170)++r174)++r178)++r182).length+r203.length) 1 then(some (.inl (((((((([(0:Int),(97:Int),(115:Int),(109:Int),(1:Int),(0:Int),(0:Int),(0:Int)]:LI)++r162)++r166)++r170)++r174)++r178)++r182)++r203)))else none)))else(some (.inl ((((((([(0:Int),(97:Int),(115:Int),(109:Int),(1:Int),(0:Int),(0:Int),(0:Int)]:LI)++r162)++r166)++r170)++r174)++r178)++r182)))))) (λh194=>((bc.f k m1.Funcs).bind λr206=>((av.f k (10:Int) r206).bind λr208=>(if aad (h194.length+r208.length) 1 then((bQ.f k m1.Datas).bind λr210=>((av.f k (11:Int) r210).bind λr212=>(if aad ((h194++r208).length+r212.length) 1 then((loopS (aM.b23 k m1) k ((0:Int),((h194++r208)++r212))).bind λh228=>(if(h228.length:Int)>1048576 then(some ((3:Int),([]:LI)))else((eF.f k h228).bind λr237=>(if r237<=h228.length then(some ((0:Int),(List.take r237 h228)))else none))))else none)))else none)))))else none)))else none)))else none)))else none)))else none)))else none)))) (λx147=>(some (x147,([]:LI)))))else(some (r124,([]:LI)))))
section
variable(k:Nat)(m1:an)
noncomputable def aM.s:Sc (Int×LI):=(.cl 1 1 (dr.ok k m1) λv125=>(.bq 2 1 15 true (v125=0) (.rS 4 2 19 (lm aj.e m1.Funcs) (.loop2 (V:=Int) (O:=Unit) (O2:=Int) 5 (0:Int) (λv148=>⟨mk 120 [(1,.p 0 8 0 0),(18,.l 3 aj.e m1.Funcs),(19,.i (m1.Funcs.length:Int)),(20,.i v148)],[u6 m1]⟩) (λv148=>(.bq 5 0 21 false (v148<(m1.Funcs.length:Int)) (.op 6 0 (Rd.el aj.e m1.Funcs v148) λv155=>(.cl 7 2 (bt.ok k v155.Code) λv158=>(.bq 8 1 31 true (v158.1=0) (.ret (.inl (iadd .i64 v148 1))) (.ret (.inr (.inr v158.1)))))) (.ret (.inr (.inl ()))))) (.exit 0) (λv159=>⟨mk 120 [(1,.p 0 8 0 0)],[u6 m1]⟩) (λv159=>(.cl 12 3 (bO.ok k m1.Types) λv161=>(.cl 12 4 (av.ok k (1:Int) v161) λv163=>(.ch 12 5 (aad (8+v163.length) 1) (aaa 1 ([(0:Int),(97:Int),(115:Int),(109:Int),(1:Int),(0:Int),(0:Int),(0:Int)]:LI).length v163 (mX (eI .u8) v163)) (.rS 12 5 40 (aac 4 1 ([(0:Int),(97:Int),(115:Int),(109:Int),(1:Int),(0:Int),(0:Int),(0:Int)]:LI) v163 (mX (eI .u8) v163)) (.rB 12 5 4 (aab 1 (eI .u8) ([(0:Int),(97:Int),(115:Int),(109:Int),(1:Int),(0:Int),(0:Int),(0:Int)]:LI) v163 (mX (eI .u8) v163)) (.cl 13 3 (bK.ok k m1.Imports) λv165=>(.cl 13 4 (av.ok k (2:Int) v165) λv167=>(.ch 13 5 (aad ((([(0:Int),(97:Int),(115:Int),(109:Int),(1:Int),(0:Int),(0:Int),(0:Int)]:LI)++v163).length+v167.length) 1) (aaa 1 (([(0:Int),(97:Int),(115:Int),(109:Int),(1:Int),(0:Int),(0:Int),(0:Int)]:LI)++v163).length v167 (mX (eI .u8) v167)) (.rS 13 5 46 (aac 7 1 (([(0:Int),(97:Int),(115:Int),(109:Int),(1:Int),(0:Int),(0:Int),(0:Int)]:LI)++v163) v167 (mX (eI .u8) v167)) (.rB 13 5 7 (aab 1 (eI .u8) (([(0:Int),(97:Int),(115:Int),(109:Int),(1:Int),(0:Int),(0:Int),(0:Int)]:LI)++v163) v167 (mX (eI .u8) v167)) (.cl 14 3 (bJ.ok k m1.Funcs) λv169=>(.cl 14 4 (av.ok k (3:Int) v169) λv171=>(.ch 14 5 (aad (((([(0:Int),(97:Int),(115:Int),(109:Int),(1:Int),(0:Int),(0:Int),(0:Int)]:LI)++v163)++v167).length+v171.length) 1) (aaa 1 ((([(0:Int),(97:Int),(115:Int),(109:Int),(1:Int),(0:Int),(0:Int),(0:Int)]:LI)++v163)++v167).length v171 (mX (eI .u8) v171)) (.rS 14 5 52 (aac 10 1 ((([(0:Int),(97:Int),(115:Int),(109:Int),(1:Int),(0:Int),(0:Int),(0:Int)]:LI)++v163)++v167) v171 (mX (eI .u8) v171)) (.rB 14 5 10 (aab 1 (eI .u8) ((([(0:Int),(97:Int),(115:Int),(109:Int),(1:Int),(0:Int),(0:Int),(0:Int)]:LI)++v163)++v167) v171 (mX (eI .u8) v171)) (.cl 15 3 (bR.ok k m1.Mems) λv173=>(.cl 15 4 (av.ok k (5:Int) v173) λv175=>(.ch 15 5 (aad ((((([(0:Int),(97:Int),(115:Int),(109:Int),(1:Int),(0:Int),(0:Int),(0:Int)]:LI)++v163)++v167)++v171).length+v175.length) 1) (aaa 1 (((([(0:Int),(97:Int),(115:Int),(109:Int),(1:Int),(0:Int),(0:Int),(0:Int)]:LI)++v163)++v167)++v171).length v175 (mX (eI .u8) v175)) (.rS 15 5 58 (aac 13 1 (((([(0:Int),(97:Int),(115:Int),(109:Int),(1:Int),(0:Int),(0:Int),(0:Int)]:LI)++v163)++v167)++v171) v175 (mX (eI .u8) v175)) (.rB 15 5 13 (aab 1 (eI .u8) (((([(0:Int),(97:Int),(115:Int),(109:Int),(1:Int),(0:Int),(0:Int),(0:Int)]:LI)++v163)++v167)++v171) v175 (mX (eI .u8) v175)) (.cl 16 3 (bP.ok k m1.Globals) λv177=>(.cl 16 4 (av.ok k (6:Int) v177) λv179=>(.ch 16 5 (aad (((((([(0:Int),(97:Int),(115:Int),(109:Int),(1:Int),(0:Int),(0:Int),(0:Int)]:LI)++v163)++v167)++v171)++v175).length+v179.length) 1) (aaa 1 ((((([(0:Int),(97:Int),(115:Int),(109:Int),(1:Int),(0:Int),(0:Int),(0:Int)]:LI)++v163)++v167)++v171)++v175).length v179 (mX (eI .u8) v179)) (.rS 16 5 64 (aac 16 1 ((((([(0:Int),(97:Int),(115:Int),(109:Int),(1:Int),(0:Int),(0:Int),(0:Int)]:LI)++v163)++v167)++v171)++v175) v179 (mX (eI .u8) v179)) (.rB 16 5 16 (aab 1 (eI .u8) ((((([(0:Int),(97:Int),(115:Int),(109:Int),(1:Int),(0:Int),(0:Int),(0:Int)]:LI)++v163)++v167)++v171)++v175) v179 (mX (eI .u8) v179)) (.cl 17 3 (bI.ok k m1.Exports) λv181=>(.cl 17 4 (av.ok k (7:Int) v181) λv183=>(.ch 17 5 (aad ((((((([(0:Int),(97:Int),(115:Int),(109:Int),(1:Int),(0:Int),(0:Int),(0:Int)]:LI)++v163)++v167)++v171)++v175)++v179).length+v183.length) 1) (aaa 1 (((((([(0:Int),(97:Int),(115:Int),(109:Int),(1:Int),(0:Int),(0:Int),(0:Int)]:LI)++v163)++v167)++v171)++v175)++v179).length v183 (mX (eI .u8) v183)) (.rS 17 5 70 (aac 19 1 (((((([(0:Int),(97:Int),(115:Int),(109:Int),(1:Int),(0:Int),(0:Int),(0:Int)]:LI)++v163)++v167)++v171)++v175)++v179) v183 (mX (eI .u8) v183)) (.rB 17 5 19 (aab 1 (eI .u8) (((((([(0:Int),(97:Int),(115:Int),(109:Int),(1:Int),(0:Int),(0:Int),(0:Int)]:LI)++v163)++v167)++v171)++v175)++v179) v183 (mX (eI .u8) v183)) (.seg (O:=LI) 20 (.rS 18 2 73 (lm aA.e m1.Datas) (.bq 18 4 75 false ((m1.Datas.length:Int)>0) (.rS 19 3 82 (lm aA.e m1.Datas) (.cl 19 4 (ap.ok k (m1.Datas.length:Int)) λv196=>(.cl 19 5 (av.ok k (12:Int) v196) λv198=>(.ch 19 6 (aad (((((((([(0:Int),(97:Int),(115:Int),(109:Int),(1:Int),(0:Int),(0:Int),(0:Int)]:LI)++v163)++v167)++v171)++v175)++v179)++v183).length+v198.length) 1) (aaa 1 ((((((([(0:Int),(97:Int),(115:Int),(109:Int),(1:Int),(0:Int),(0:Int),(0:Int)]:LI)++v163)++v167)++v171)++v175)++v179)++v183).length v198 (mX (eI .u8) v198)) (.rS 19 6 85 (aac 22 1 ((((((([(0:Int),(97:Int),(115:Int),(109:Int),(1:Int),(0:Int),(0:Int),(0:Int)]:LI)++v163)++v167)++v171)++v175)++v179)++v183) v198 (mX (eI .u8) v198)) (.rB 19 6 22 (aab 1 (eI .u8) ((((((([(0:Int),(97:Int),(115:Int),(109:Int),(1:Int),(0:Int),(0:Int),(0:Int)]:LI)++v163)++v167)++v171)++v175)++v179)++v183) v198 (mX (eI .u8) v198)) (.ret (.inl (((((((([(0:Int),(97:Int),(115:Int),(109:Int),(1:Int),(0:Int),(0:Int),(0:Int)]:LI)++v163)++v167)++v171)++v175)++v179)++v183)++v198))))))))) (.cl 18 6 (dH.ok k m1) λv200=>(.br 18 7 78 v200 (.rS 19 3 82 (lm aA.e m1.Datas) (.cl 19 4 (ap.ok k (m1.Datas.length:Int)) λv202=>(.cl 19 5 (av.ok k (12:Int) v202) λv204=>(.ch 19 6 (aad (((((((([(0:Int),(97:Int),(115:Int),(109:Int),(1:Int),(0:Int),(0:Int),(0:Int)]:LI)++v163)++v167)++v171)++v175)++v179)++v183).length+v204.length) 1) (aaa 1 ((((((([(0:Int),(97:Int),(115:Int),(109:Int),(1:Int),(0:Int),(0:Int),(0:Int)]:LI)++v163)++v167)++v171)++v175)++v179)++v183).length v204 (mX (eI .u8) v204)) (.rS 19 6 85 (aac 22 1 ((((((([(0:Int),(97:Int),(115:Int),(109:Int),(1:Int),(0:Int),(0:Int),(0:Int)]:LI)++v163)++v167)++v171)++v175)++v179)++v183) v204 (mX (eI .u8) v204)) (.rB 19 6 22 (aab 1 (eI .u8) ((((((([(0:Int),(97:Int),(115:Int),(109:Int),(1:Int),(0:Int),(0:Int),(0:Int)]:LI)++v163)++v167)++v171)++v175)++v179)++v183) v204 (mX (eI .u8) v204)) (.ret (.inl (((((((([(0:Int),(97:Int),(115:Int),(109:Int),(1:Int),(0:Int),(0:Int),(0:Int)]:LI)++v163)++v167)++v171)++v175)++v179)++v183)++v204))))))))) (.ret (.inl ((((((([(0:Int),(97:Int),(115:Int),(109:Int),(1:Int),(0:Int),(0:Int),(0:Int)]:LI)++v163)++v167)++v171)++v175)++v179)++v183))))))) (λv205=>⟨mk 120 [(1,.p 0 8 0 0),(9,.o 1 1 v205.length)],[u6 m1,bl 1 (eI .u8) v205]⟩) λv205=>(.cl 20 3 (bc.ok k m1.Funcs) λv207=>(.cl 20 4 (av.ok k (10:Int) v207) λv209=>(.ch 20 5 (aad (v205.length+v209.length) 1) (aaa 1 v205.length v209 (mX (eI .u8) v209)) (.rS 20 5 91 (aac 4 1 v205 v209 (mX (eI .u8) v209)) (.rB 20 5 4 (aab 1 (eI .u8) v205 v209 (mX (eI .u8) v209)) (.cl 21 3 (bQ.ok k m1.Datas) λv211=>(.cl 21 4 (av.ok k (11:Int) v211) λv213=>(.ch 21 5 (aad ((v205++v209).length+v213.length) 1) (aaa 1 (v205++v209).length v213 (mX (eI .u8) v213)) (.rS 21 5 97 (aac 7 1 (v205++v209) v213 (mX (eI .u8) v213)) (.rB 21 5 7 (aab 1 (eI .u8) (v205++v209) v213 (mX (eI .u8) v213)) (.rS 22 2 100 (lm aI.e m1.Customs) (.loop (V:=Int×LI) (O:=LI) 23 ((0:Int),((v205++v209)++v213)) (λv229=>⟨mk 120 [(9,.o 0 1 v229.2.length),(99,.l 2 aI.e m1.Customs),(100,.i (m1.Customs.length:Int)),(101,.i v229.1)],[bl 1 (eI .u8) v229.2]⟩) (λv229=>(.bq 23 0 102 false (v229.1<(m1.Customs.length:Int)) (.op 24 0 (Rd.el aI.e m1.Customs v229.1) λv231=>(.cl 25 3 (bg.ok k v231.Name) λv233=>(.ch 25 6 (aad (v233.length+v231.Bytes.length) 1) (aaa 1 v233.length v231.Bytes (mX (eI .u8) v231.Bytes)) (.rS 25 6 111 (aac 3 1 v233 v231.Bytes (mX (eI .u8) v231.Bytes)) (.rB 25 6 3 (aab 1 (eI .u8) v233 v231.Bytes (mX (eI .u8) v231.Bytes)) (.cl 25 7 (av.ok k (0:Int) (v233++v231.Bytes)) λv235=>(.ch 25 8 (aad (v229.2.length+v235.length) 1) (aaa 1 v229.2.length v235 (mX (eI .u8) v235)) (.rS 25 8 113 (aac 5 1 v229.2 v235 (mX (eI .u8) v235)) (.rB 25 8 5 (aab 1 (eI .u8) v229.2 v235 (mX (eI .u8) v235)) (.ret (.inl ((iadd .i64 v229.1 1),(v229.2++v235))))))))))))) (.ret (.inr v229.2)))) (.exit 2) (λv236=>⟨mk 120 [(9,.o 0 1 v236.length)],[bl 1 (eI .u8) v236]⟩) λv236=>(.bq 27 2 117 false ((v236.length:Int)>1048576) (.ret ((3:Int),([]:LI))) (.cl 29 1 (eF.ok k v236) λv238=>(.as 29 902 (v238<=v236.length) λhc=>(.rB 29 902 1 (aaY 1 (eI .u8) v236 v238) (.rS 29 902 119 (congrArg (λq=>A.c (.slw 1 1 q)) (aa0 hc)) (.ret ((0:Int),(List.take v238 v236)))))))))))))))))))))))))))))))))))))))))))))))))))) .ret (λv239=>⟨mk 120 [(1,.p 0 8 0 0),(2,.n),(3,.i v239)],[u6 m1]⟩) λv239=>(.ret (v239,([]:LI))))) (.ret (v125,([]:LI)))))
theorem aM.ok:op k 47 ([.agp (w6 m1)],[]) (λv240=>(.tup [.o 0 1 v240.2.length,.i v240.1],[bl 1 (eI .u8) v240.2])) (aM.f k m1):=by apply oP (aM.s · m1) k
end
end Go.R4
