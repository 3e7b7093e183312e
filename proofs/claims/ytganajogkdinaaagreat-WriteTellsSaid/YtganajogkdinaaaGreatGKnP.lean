import Derived.Test.YtganajogkdinaaaGreatGPe
import Derived.Test.YtganajogkdinaaaGreatGCon
import Derived.Test.YtganajogkdinaaaGreatEvInt
set_option linter.all false
namespace Go.R4
open Go.Proofs Go.Ev
set_option maxRecDepth 100000
def Far(op:Int):Prop:=op<0∨(197<=op/\op<64514)∨64523<op
theorem adc{op a b:Int}(h:op<a∨b<op)(k:Nat):bV.f (k+1) op a b=some false:=by
 simp only[bV.f]
 by_cases h1:op≥a
 ·rw[if_pos h1,decide_eq_false (by omega)]
 ·rw[if_neg h1]
theorem amp{op:Int}(h:Far op)(k:Nat):eR.f (k+2) op=some false:=by
 unfold Far at h
 simp only[eR.f]
 rw[adc (by omega),adc (by omega),adc (by omega)]
 simp (disch:=omega) only[Option.bind_some,if_neg,Bool.false_eq_true,if_false]
theorem aik{op:Int}(h:Far op)(k:Nat):eC.f (k+1) op=some false:=by
 unfold Far at h
 simp only[eC.f]
 rcases h with h | h | h <;> simp (disch:=omega) only[segB,if_neg,if_pos,decide_eq_false,decide_eq_true,Bool.false_eq_true,if_false]
theorem alK{op:Int}(h:Far op)(k:Nat):eQ.f (k+1) op=some false:=by
 unfold Far at h
 simp only[eQ.f]
 rcases h with h | h | h <;> simp (disch:=omega) only[segB,if_neg,if_pos,decide_eq_false,decide_eq_true,Bool.false_eq_true,if_false]
theorem alZ{op:Int}(h:Far op)(k:Nat):eO.f (k+1) op=some false:=by
 unfold Far at h
 simp only[eO.f]
 rcases h with h | h | h <;> simp (disch:=omega) only[segB,if_neg,if_pos,decide_eq_false,decide_eq_true,Bool.false_eq_true,if_false]
theorem amf{op:Int}(h:Far op)(k:Nat):aN.f (k+3) op=some (false,[],[]):=by
 simp only[aN.f]
 rw[alK h,alZ h]
 rfl
theorem alp{op:Int}(h:Far op)(k:Nat):aE.f (k+1) op=some (0,0,false,false):=by
 unfold Far at h
 simp only[aE.f]
 simp (disch:=omega) only[segB,if_neg,Bool.false_eq_true,if_false]
theorem aia{op:Int}(h:Far op)(k:Nat):aA.f (k+1) op=some (0,0,false):=by
 unfold Far at h
 simp only[aA.f]
 simp (disch:=omega) only[segB,if_neg,if_pos,Bool.false_eq_true,if_false,if_true,Int.lt_irrefl]
theorem aoH{op:Int}(h:Far op)(k:Nat):cE.f (k+1) op=some (0,false):=by
 unfold Far at h
 simp only[cE.f]
 simp (disch:=omega) only[if_neg]
theorem amB{op:Int}(h:Far op)(k:Nat):bJ.f (k+1) op=some 0:=by
 unfold Far at h
 simp only[bJ.f]
 simp (disch:=omega) only[if_neg]
theorem alf{op:Int}(h:Far op)(k:Nat):bi.f (k+1) op=some false:=by
 unfold Far at h
 simp only[bi.f]
 rcases h with h | h | h <;> simp (disch:=omega) only[if_neg,if_pos,decide_eq_false]
theorem akG{op:Int}(h:Far op)(k:Nat):cR.f (k+3) op=some false:=by
 have h':=h
 unfold Far at h'
 simp only[cR.f]
 rw[alp h,aoH h,amp h,aik h,alf h]
 simp (disch:=omega) only[segB,if_neg,Bool.false_eq_true,if_false,Option.bind_some]
theorem aet{op:Int}(h:Far op)(k:Nat):bQ.f (k+4) op=some false:=by
 have h':=h
 unfold Far at h'
 simp only[bQ.f]
 rw[amf h,aia h,amB h]
 rcases h' with h | h | h <;> simp (disch:=omega) only[segB,if_neg,if_pos,decide_eq_false,decide_eq_true,Bool.false_eq_true,if_false,if_true,Option.bind_some]
theorem aeF{op:Int}(h:¬Far op):(∃ n:Nat,n<197/\op=(n:Int)) ∨ ∃ n:Nat,n<10/\op=((n+64514:Nat):Int):=by
 unfold Far at h
 rcases Int.lt_or_le op 197 with h1 | h1
 ·exact .inl ⟨op.toNat,by omega,by omega⟩
 ·exact .inr ⟨op.toNat-64514,by omega,by omega⟩
theorem ahH{f:Int->Bool}(h1:(List.range 197).all (λn=>f (n:Int))=true)(h2:(List.range 10).all (λn=>f ((n+64514:Nat):Int))=true){op:Int}(h:¬Far op):f op=true:=by
 rcases aeF h with⟨n,hn,rfl⟩ | ⟨n,hn,rfl⟩
 ·exact List.all_eq_true.1 h1 n (by simpa using hn)
 ·exact List.all_eq_true.1 h2 n (by simpa using hn)
def isT:Option Bool->Bool
 | some b=>b
 | none=>false
def kn(op:Int):Bool:=isT (bQ.f 12 op)
theorem amI(j:Nat):(List.range 197).all (λn=>(cR.f (j+12) (n:Int) == some (kn (n:Int)))&&(bQ.f (j+12) (n:Int) == some (kn (n:Int))))=true:=by kernel_rfl
theorem al6(j:Nat):(List.range 10).all (λn=>(cR.f (j+12) ((n+64514:Nat):Int) == some (kn ((n+64514:Nat):Int)))&&(bQ.f (j+12) ((n+64514:Nat):Int) == some (kn ((n+64514:Nat):Int))))=true:=by kernel_rfl
theorem am1{op:Int}(h:Far op):kn op=false:=by unfold kn;rw[aet h 8];rfl
theorem apc(j:Nat)(op:Int):cR.f (j+12) op=some (kn op)/\bQ.f (j+12) op=some (kn op):=by
 by_cases h:Far op
 ·rw[am1 h];exact⟨akG h _,aet h _⟩
 ·have:=ahH (f:=λop=>(cR.f (j+12) op == some (kn op))&&(bQ.f (j+12) op == some (kn op))) (amI j) (al6 j) h
  simpa using this
def acc(op:Int):Bool:=([40,41,43,44,45,46,47,48,49,50,51,52,53,54,55,57,58,59,60,61,62]:List Int).contains op
def cls(op:Int):Nat:=
 if 2<=op/\op<=4 then 0 else if acc op then 1 else if op=65 then 2 else if op=66∨op=68 then 3 else if op=12∨op=13 then 4 else if op=14 then 5 else if op=16∨op=18 then 6
 else if op=32∨op=33∨op=34 then 7 else if op=35∨op=36 then 8 else if op=63∨op=64∨op=64523 then 9 else if op=64520 then 10 else if op=64521 then 11 else if op=64522 then 12 else 13
end Go.R4
