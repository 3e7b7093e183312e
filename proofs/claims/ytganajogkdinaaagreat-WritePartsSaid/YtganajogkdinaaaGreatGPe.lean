import Derived.Test.YtganajogkdinaaaGreatGPd
import Derived.KernelRfl
set_option linter.all false
namespace Go.R4
open Go.Proofs Go.Ev
set_option maxRecDepth 100000
def dN.f:Nat->Int->Option (Int)
 | 0,_=>none
 | k+1,op1=>(if op1=65 then(some (127:Int))else(if op1=66 then(some (126:Int))else(if op1=68 then(some (124:Int))else(some (0:Int)))))
def dv.f:Nat->Int->Option (Bool)
 | 0,_=>none
 | k+1,op1=>((aQ.f k op1).bind λ(r55,r56,r57)=>(if r55=true then(some true)else((aO.f k op1).bind λ(r59,r60,r61)=>(segB (if r59>0 then(some (.inl true))else((dN.f k op1).bind λr90=>(if r90=0 then(segB (if op1≥0 then(some (.inl (decide (op1<=5))))else(some (.inl false))) (λx92=>(if x92=true then(some (.inl true))else(segB (if op1≥11 then(some (.inl (decide (op1<=16))))else(some (.inl false))) (λx94=>(if x94=true then(some (.inl true))else(if op1=18 then(some (.inl true))else(if op1=26 then(some (.inl true))else(if op1=27 then(some (.inl true))else(segB (if op1≥32 then(some (.inl (decide (op1<=36))))else(some (.inl false))) (λx96=>(if x96=true then(some (.inl true))else(if op1=63 then(some (.inl true))else(if op1=64 then(some (.inl true))else(if op1≥64520 then(if op1<=64523 then(some (.inl true))else(some (.inl false)))else(some (.inl false)))))))))))))))))else(some (.inl true))))) (λx89=>(if x89=true then(some true)else(some false)))))))
def dM.f:Nat->Int->Option (Bool)
 | 0,_=>none
 | k+1,op1=>(if op1≥2 then(some (decide (op1<=4)))else(some false))
def cR.b5(k:Nat)(code1:LIn):(Bool×Int×List aq×LI)->Option ((Bool×Int×List aq×LI)⊕(Unit⊕(Int×List aq))):=λ(deep273,i274,h275,h276)=>(if i274<(code1.length:Int)then(segB ((at? code1 i274).bind λe365=>((dM.f k e365.Op).bind λr367=>(if r367=true then(if aaf (h276.length+1) 8 then(if aaf (h275.length+1) 24 then(if deep273=true then(some (.inl (true,(h275++([(aq.mk i274 (-1:Int) (-1:Int))]:List aq)),(h276++([(h275.length:Int)]:LI)))))else(some (.inl ((decide ((((h276++([(h275.length:Int)]:LI))).length:Int)>64)),(h275++([(aq.mk i274 (-1:Int) (-1:Int))]:List aq)),(h276++([(h275.length:Int)]:LI))))))else none)else none)else(if e365.Op=5 then(if(h276.length:Int)=0 then(some (.inr (.inr (.inr ((12:Int),([]:List aq))))))else(if(0:Int)<=(isub .i64 (h276.length:Int) 1)/\(isub .i64 (h276.length:Int) 1)<(h276.length:Int)then(h276[((isub .i64 (h276.length:Int) 1)).toNat]?.bind λe369=>(if(0:Int)<=e369/\e369<(h275.length:Int)then(h275[(e369).toNat]?.bind λe377=>((at? code1 e377.At).bind λe379=>(if e379.Op=4 then(if(0:Int)<=e369/\e369<(h275.length:Int)then(h275[(e369).toNat]?.bind λe381=>(if e381.Else≥0 then(some (.inr (.inr (.inr ((12:Int),([]:List aq))))))else(if(0:Int)<=e369/\e369<(h275.length:Int)then(h275[(e369).toNat]?.bind λe383=>(some (.inl (deep273,(h275.set ((e369).toNat) (aq.mk e383.At i274 e383.End)),h276))))else none)))else none)else(some (.inr (.inr (.inr ((12:Int),([]:List aq)))))))))else none))else none))else(segB (if e365.Op=11 then(some (.inl (decide ((h276.length:Int)=0))))else(some (.inl false))) (λx385=>(if x385=true then(if i274=(isub .i64 (code1.length:Int) 1)then(if deep273=true then(some (.inr (.inr (.inr ((26:Int),([]:List aq))))))else(some (.inr (.inr (.inr ((0:Int),h275))))))else(some (.inr (.inr (.inr ((12:Int),([]:List aq)))))))else(if e365.Op=11 then(if(0:Int)<=(isub .i64 (h276.length:Int) 1)/\(isub .i64 (h276.length:Int) 1)<(h276.length:Int)then(h276[((isub .i64 (h276.length:Int) 1)).toNat]?.bind λe387=>(if(0:Int)<=e387/\e387<(h275.length:Int)then(h275[(e387).toNat]?.bind λe389=>(if(0:Int)<=(isub .i64 (h276.length:Int) 1)/\(0:Nat)<=((isub .i64 (h276.length:Int) 1)).toNat/\(((isub .i64 (h276.length:Int) 1)).toNat:Nat)<=h276.length then(if(((isub .i64 (h276.length:Int) 1)).toNat-0)<=h276.length then(some (.inl (deep273,(h275.set ((e387).toNat) (aq.mk e389.At e389.Else i274)),(List.take (((isub .i64 (h276.length:Int) 1)).toNat-0) h276))))else none)else none))else none))else none)else(some (.inl (deep273,h275,h276))))))))))) (λ(deep362,h363,h364)=>(some (.inl (deep362,(iadd .i64 i274 1),h363,h364)))))else(some (.inr (.inl ()))))
def cR.f:Nat->LIn->Option (Int×List aq)
 | 0,_=>none
 | k+1,code1=>(altB (loopS (cR.b5 k code1) k (false,(0:Int),([]:List aq),([]:LI))) (λ_=>(some ((12:Int),([]:List aq)))) (λ(x333,h334)=>(some (x333,h334))))
def dL.b2(k:Nat):(Int×Int)->Option ((Int×Int)⊕Int):=λ(w8,n9)=>(if w8>1 then(some (.inl ((iquo .i64 w8 2),(iadd .i64 n9 1))))else(some (.inr n9)))
def dL.f:Nat->Int->Option (Int)
 | 0,_=>none
 | k+1,w1=>((loopS (dL.b2 k) k (w1,(0:Int))).bind λn10=>(some n10))
def dp.f:Nat->Option (Bool)
 | 0=>none
 | k+1=>((aA.f k (ay.mk ([]:LTy) ([]:LIm) ([]:LFu) ([]:LMe) ([]:LGl) ([]:LEx) ([]:LDa) ([]:LCu))).bind λ(r10,r11)=>((aA.f k (ay.mk ([(ab.mk ([]:LI) ([]:LI))]:LTy) ([]:LIm) ([(ai.mk (0:Int) ([]:LI) ([]:LIn))]:LFu) ([]:LMe) ([]:LGl) ([]:LEx) ([]:LDa) ([]:LCu))).bind λ(r13,r14)=>(if r10=0 then(if(ack (strOf r11) (⟨#[0,97,115,109,1,0,0,0]⟩:ByteArray))=true then(if r13=12 then((bA.f k ([(ag.mk (65:Int) (0:Int) (0:Int) (4294967295:Int) ([]:LI)),(ag.mk (11:Int) (0:Int) (0:Int) (0:Int) ([]:LI))]:LIn)).bind λr16=>(some (ack (strOf r16) (⟨#[65,127,11]⟩:ByteArray))))else(some false))else(some false))else(some false))))
section
variable(k:Nat)
noncomputable def dp.s:Sc (Bool):=(.cl 1 1 (aA.ok k (ay.mk ([]:LTy) ([]:LIm) ([]:LFu) ([]:LMe) ([]:LGl) ([]:LEx) ([]:LDa) ([]:LCu))) λv12=>(.cl 2 5 (aA.ok k (ay.mk ([(ab.mk ([]:LI) ([]:LI))]:LTy) ([]:LIm) ([(ai.mk (0:Int) ([]:LI) ([]:LIn))]:LFu) ([]:LMe) ([]:LGl) ([]:LEx) ([]:LDa) ([]:LCu))) λv15=>(.bq 3 2 21 false (v12.1=0) (.op 3 4 (Rd.txt v12.2) λ_=>(.br 3 7 26 (ack (strOf v12.2) (⟨#[0,97,115,109,1,0,0,0]⟩:ByteArray)) (.bq 3 11 30 false (v15.1=12) (.cl 3 15 (bA.ok k ([(ag.mk (65:Int) (0:Int) (0:Int) (4294967295:Int) ([]:LI)),(ag.mk (11:Int) (0:Int) (0:Int) (0:Int) ([]:LI))]:LIn)) λv17=>(.op 3 16 (Rd.txt v17) λ_=>(.ret (ack (strOf v17) (⟨#[65,127,11]⟩:ByteArray))))) (.ret false)) (.ret false))) (.ret false))))
theorem dp.ok:op k 46 ([],[]) (λv18=>(.b v18,[])) (dp.f k):=by apply oP (dp.s ·) k
end
end Go.R4
