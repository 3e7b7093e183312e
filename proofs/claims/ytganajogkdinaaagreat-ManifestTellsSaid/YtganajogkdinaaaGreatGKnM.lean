import Derived.Test.YtganajogkdinaaaGreatGMd
import Derived.Test.YtganajogkdinaaaGreatGCon
import Derived.Test.YtganajogkdinaaaGreatEvInt
set_option linter.all false
namespace Go.R4
open Go.Proofs Go.Ev
set_option maxRecDepth 100000
def Far(op:Int):Prop:=op<0∨(197<=op/\op<64514)∨64523<op
theorem adx{op a b:Int}(h:op<a∨b<op)(k:Nat):bZ.f (k+1) op a b=some false:=by
 simp only[bZ.f]
 by_cases h1:op≥a
 ·rw[if_pos h1,decide_eq_false (by omega)]
 ·rw[if_neg h1]
theorem amq{op:Int}(h:Far op)(k:Nat):ez.f (k+2) op=some false:=by
 unfold Far at h
 simp only[ez.f]
 rw[adx (by omega),adx (by omega),adx (by omega)]
 simp (disch:=omega) only[Option.bind_some,if_neg,Bool.false_eq_true,if_false]
theorem aiI{op:Int}(h:Far op)(k:Nat):dV.f (k+1) op=some false:=by
 unfold Far at h
 simp only[dV.f]
 rcases h with h | h | h <;> simp (disch:=omega) only[segB,if_neg,if_pos,decide_eq_false,decide_eq_true,Bool.false_eq_true,if_false]
theorem alM{op:Int}(h:Far op)(k:Nat):ey.f (k+1) op=some false:=by
 unfold Far at h
 simp only[ey.f]
 rcases h with h | h | h <;> simp (disch:=omega) only[segB,if_neg,if_pos,decide_eq_false,decide_eq_true,Bool.false_eq_true,if_false]
theorem ali{op:Int}(h:Far op)(k:Nat):eD.f (k+1) op=some false:=by
 unfold Far at h
 simp only[eD.f]
 rcases h with h | h | h <;> simp (disch:=omega) only[segB,if_neg,if_pos,decide_eq_false,decide_eq_true,Bool.false_eq_true,if_false]
theorem alH{op:Int}(h:Far op)(k:Nat):bc.f (k+3) op=some (false,[],[]):=by
 simp only[bc.f]
 rw[alM h,ali h]
 rfl
theorem ak4{op:Int}(h:Far op)(k:Nat):bF.f (k+1) op=some (0,0,false,false):=by
 unfold Far at h
 simp only[bF.f]
 simp (disch:=omega) only[segB,if_neg,Bool.false_eq_true,if_false]
theorem ahF{op:Int}(h:Far op)(k:Nat):aU.f (k+1) op=some (0,0,false):=by
 unfold Far at h
 simp only[aU.f]
 simp (disch:=omega) only[segB,if_neg,if_pos,Bool.false_eq_true,if_false,if_true,Int.lt_irrefl]
theorem anR{op:Int}(h:Far op)(k:Nat):dk.f (k+1) op=some (0,false):=by
 unfold Far at h
 simp only[dk.f]
 simp (disch:=omega) only[if_neg]
theorem alf{op:Int}(h:Far op)(k:Nat):cN.f (k+1) op=some 0:=by
 unfold Far at h
 simp only[cN.f]
 simp (disch:=omega) only[if_neg]
theorem ak2{op:Int}(h:Far op)(k:Nat):dj.f (k+1) op=some false:=by
 unfold Far at h
 simp only[dj.f]
 rcases h with h | h | h <;> simp (disch:=omega) only[if_neg,if_pos,decide_eq_false]
theorem ajU{op:Int}(h:Far op)(k:Nat):cS.f (k+3) op=some false:=by
 have h':=h
 unfold Far at h'
 simp only[cS.f]
 rw[ak4 h,anR h,amq h,aiI h,ak2 h]
 simp (disch:=omega) only[segB,if_neg,Bool.false_eq_true,if_false,Option.bind_some]
theorem aeR{op:Int}(h:Far op)(k:Nat):bU.f (k+4) op=some false:=by
 have h':=h
 unfold Far at h'
 simp only[bU.f]
 rw[alH h,ahF h,alf h]
 rcases h' with h | h | h <;> simp (disch:=omega) only[segB,if_neg,if_pos,decide_eq_false,decide_eq_true,Bool.false_eq_true,if_false,if_true,Option.bind_some]
theorem air{op:Int}(h:¬Far op):(∃ n:Nat,n<197/\op=(n:Int)) ∨ ∃ n:Nat,n<10/\op=((n+64514:Nat):Int):=by
 unfold Far at h
 rcases Int.lt_or_le op 197 with h1 | h1
 ·exact .inl ⟨op.toNat,by omega,by omega⟩
 ·exact .inr ⟨op.toNat-64514,by omega,by omega⟩
theorem ahI{f:Int->Bool}(h1:(List.range 197).all (λn=>f (n:Int))=true)(h2:(List.range 10).all (λn=>f ((n+64514:Nat):Int))=true){op:Int}(h:¬Far op):f op=true:=by
 rcases air h with⟨n,hn,rfl⟩ | ⟨n,hn,rfl⟩
 ·exact List.all_eq_true.1 h1 n (by simpa using hn)
 ·exact List.all_eq_true.1 h2 n (by simpa using hn)
def isT:Option Bool->Bool
 | some b=>b
 | none=>false
def kn(op:Int):Bool:=isT (bU.f 12 op)
theorem ama(j:Nat):(List.range 197).all (λn=>(cS.f (j+12) (n:Int) == some (kn (n:Int)))&&(bU.f (j+12) (n:Int) == some (kn (n:Int))))=true:=by kernel_rfl
theorem alx(j:Nat):(List.range 10).all (λn=>(cS.f (j+12) ((n+64514:Nat):Int) == some (kn ((n+64514:Nat):Int)))&&(bU.f (j+12) ((n+64514:Nat):Int) == some (kn ((n+64514:Nat):Int))))=true:=by kernel_rfl
theorem aoz{op:Int}(h:Far op):kn op=false:=by unfold kn;rw[aeR h 8];rfl
theorem aoE(j:Nat)(op:Int):cS.f (j+12) op=some (kn op)/\bU.f (j+12) op=some (kn op):=by
 by_cases h:Far op
 ·rw[aoz h];exact⟨ajU h _,aeR h _⟩
 ·have:=ahI (f:=λop=>(cS.f (j+12) op == some (kn op))&&(bU.f (j+12) op == some (kn op))) (ama j) (alx j) h
  simpa using this
def acc(op:Int):Bool:=([40,41,43,44,45,46,47,48,49,50,51,52,53,54,55,57,58,59,60,61,62]:List Int).contains op
def cls(op:Int):Nat:=
 if 2<=op/\op<=4 then 0 else if acc op then 1 else if op=65 then 2 else if op=66∨op=68 then 3 else if op=12∨op=13 then 4 else if op=14 then 5 else if op=16∨op=18 then 6
 else if op=32∨op=33∨op=34 then 7 else if op=35∨op=36 then 8 else if op=63∨op=64∨op=64523 then 9 else if op=64520 then 10 else if op=64521 then 11 else if op=64522 then 12 else 13
end Go.R4
