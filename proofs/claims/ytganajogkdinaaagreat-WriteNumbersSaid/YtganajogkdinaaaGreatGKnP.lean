import Derived.Test.YtganajogkdinaaaGreatGPe
import Derived.Test.YtganajogkdinaaaGreatGCon
import Derived.Test.YtganajogkdinaaaGreatEvInt
set_option linter.all false
namespace Go.R4
open Go.Proofs Go.Ev
set_option maxRecDepth 100000
def Far(op:Int):Prop:=op<0∨(197<=op/\op<64514)∨64523<op
theorem adr{op a b:Int}(h:op<a∨b<op)(k:Nat):bU.f (k+1) op a b=some false:=by
 simp only[bU.f]
 by_cases h1:op≥a
 ·rw[if_pos h1,decide_eq_false (by omega)]
 ·rw[if_neg h1]
theorem amp{op:Int}(h:Far op)(k:Nat):eG.f (k+2) op=some false:=by
 unfold Far at h
 simp only[eG.f]
 rw[adr (by omega),adr (by omega),adr (by omega)]
 simp (disch:=omega) only[Option.bind_some,if_neg,Bool.false_eq_true,if_false]
theorem ait{op:Int}(h:Far op)(k:Nat):ep.f (k+1) op=some false:=by
 unfold Far at h
 simp only[ep.f]
 rcases h with h | h | h <;> simp (disch:=omega) only[segB,if_neg,if_pos,decide_eq_false,decide_eq_true,Bool.false_eq_true,if_false]
theorem amn{op:Int}(h:Far op)(k:Nat):eH.f (k+1) op=some false:=by
 unfold Far at h
 simp only[eH.f]
 rcases h with h | h | h <;> simp (disch:=omega) only[segB,if_neg,if_pos,decide_eq_false,decide_eq_true,Bool.false_eq_true,if_false]
theorem alK{op:Int}(h:Far op)(k:Nat):eM.f (k+1) op=some false:=by
 unfold Far at h
 simp only[eM.f]
 rcases h with h | h | h <;> simp (disch:=omega) only[segB,if_neg,if_pos,decide_eq_false,decide_eq_true,Bool.false_eq_true,if_false]
theorem alX{op:Int}(h:Far op)(k:Nat):aO.f (k+3) op=some (false,[],[]):=by
 simp only[aO.f]
 rw[amn h,alK h]
 rfl
theorem aj4{op:Int}(h:Far op)(k:Nat):aD.f (k+1) op=some (0,0,false,false):=by
 unfold Far at h
 simp only[aD.f]
 simp (disch:=omega) only[segB,if_neg,Bool.false_eq_true,if_false]
theorem ahT{op:Int}(h:Far op)(k:Nat):ax.f (k+1) op=some (0,0,false):=by
 unfold Far at h
 simp only[ax.f]
 simp (disch:=omega) only[segB,if_neg,if_pos,Bool.false_eq_true,if_false,if_true,Int.lt_irrefl]
theorem anE{op:Int}(h:Far op)(k:Nat):cH.f (k+1) op=some (0,false):=by
 unfold Far at h
 simp only[cH.f]
 simp (disch:=omega) only[if_neg]
theorem alH{op:Int}(h:Far op)(k:Nat):bH.f (k+1) op=some 0:=by
 unfold Far at h
 simp only[bH.f]
 simp (disch:=omega) only[if_neg]
theorem akC{op:Int}(h:Far op)(k:Nat):bj.f (k+1) op=some false:=by
 unfold Far at h
 simp only[bj.f]
 rcases h with h | h | h <;> simp (disch:=omega) only[if_neg,if_pos,decide_eq_false]
theorem ai6{op:Int}(h:Far op)(k:Nat):cS.f (k+3) op=some false:=by
 have h':=h
 unfold Far at h'
 simp only[cS.f]
 rw[aj4 h,anE h,amp h,ait h,akC h]
 simp (disch:=omega) only[segB,if_neg,Bool.false_eq_true,if_false,Option.bind_some]
theorem aeH{op:Int}(h:Far op)(k:Nat):bM.f (k+4) op=some false:=by
 have h':=h
 unfold Far at h'
 simp only[bM.f]
 rw[alX h,ahT h,alH h]
 rcases h' with h | h | h <;> simp (disch:=omega) only[segB,if_neg,if_pos,decide_eq_false,decide_eq_true,Bool.false_eq_true,if_false,if_true,Option.bind_some]
theorem aeB{op:Int}(h:¬Far op):(∃ n:Nat,n<197/\op=(n:Int)) ∨ ∃ n:Nat,n<10/\op=((n+64514:Nat):Int):=by
 unfold Far at h
 rcases Int.lt_or_le op 197 with h1 | h1
 ·exact .inl ⟨op.toNat,by omega,by omega⟩
 ·exact .inr ⟨op.toNat-64514,by omega,by omega⟩
theorem ah2{f:Int->Bool}(h1:(List.range 197).all (λn=>f (n:Int))=true)(h2:(List.range 10).all (λn=>f ((n+64514:Nat):Int))=true){op:Int}(h:¬Far op):f op=true:=by
 rcases aeB h with⟨n,hn,rfl⟩ | ⟨n,hn,rfl⟩
 ·exact List.all_eq_true.1 h1 n (by simpa using hn)
 ·exact List.all_eq_true.1 h2 n (by simpa using hn)
def isT:Option Bool->Bool
 | some b=>b
 | none=>false
def kn(op:Int):Bool:=isT (bM.f 12 op)
theorem alf(j:Nat):(List.range 197).all (λn=>(cS.f (j+12) (n:Int) == some (kn (n:Int)))&&(bM.f (j+12) (n:Int) == some (kn (n:Int))))=true:=by kernel_rfl
theorem amg(j:Nat):(List.range 10).all (λn=>(cS.f (j+12) ((n+64514:Nat):Int) == some (kn ((n+64514:Nat):Int)))&&(bM.f (j+12) ((n+64514:Nat):Int) == some (kn ((n+64514:Nat):Int))))=true:=by kernel_rfl
theorem am8{op:Int}(h:Far op):kn op=false:=by unfold kn;rw[aeH h 8];rfl
theorem apj(j:Nat)(op:Int):cS.f (j+12) op=some (kn op)/\bM.f (j+12) op=some (kn op):=by
 by_cases h:Far op
 ·rw[am8 h];exact⟨ai6 h _,aeH h _⟩
 ·have:=ah2 (f:=λop=>(cS.f (j+12) op == some (kn op))&&(bM.f (j+12) op == some (kn op))) (alf j) (amg j) h
  simpa using this
def acc(op:Int):Bool:=([40,41,43,44,45,46,47,48,49,50,51,52,53,54,55,57,58,59,60,61,62]:List Int).contains op
def cls(op:Int):Nat:=
 if 2<=op/\op<=4 then 0 else if acc op then 1 else if op=65 then 2 else if op=66∨op=68 then 3 else if op=12∨op=13 then 4 else if op=14 then 5 else if op=16∨op=18 then 6
 else if op=32∨op=33∨op=34 then 7 else if op=35∨op=36 then 8 else if op=63∨op=64∨op=64523 then 9 else if op=64520 then 10 else if op=64521 then 11 else if op=64522 then 12 else 13
end Go.R4
