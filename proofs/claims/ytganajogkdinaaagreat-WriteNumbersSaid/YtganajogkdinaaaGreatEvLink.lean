import Derived.Test.YtganajogkdinaaaGreatEvDraw3
import Derived.Test.YtganajogkdinaaaGreatEvNum
import Derived.Below
set_option linter.all false
namespace Go.Ev
variable[Glo][Itr]
open Go.RowKit
def snap(W:World):Phi:=λc=>match W.heap[c]? with
 | some (.cells arr _ _)=>some arr
 |_=>none
def noRho:Rho:=λ_=>none
theorem anm(W:World)(hG:∀ c arr,Glo.g c=some arr->snap W c=some arr):HR (snap W) noRho [] W where
 glo:=hG
 fro:=λc arr h=>by
  unfold snap at h
  split at h
  ·rename_i arr' ty fz hw;cases h;exact⟨ty,fz,hw⟩
  ·cases h
 own:=λb k inf h=>by simp[live]at h
 mps:=λb kk es inf h=>by simp[live]at h
 inj:=λb b' k k' inf inf' h=>by simp[live]at h
theorem apr{P:Program}[ItrOk P](hm:P.follows .mixedOrders=true){cfg:Cfg}{prim:FuncId->Option (List A->Heap->Option (A×Heap))}(hp:agr P prim){k:Nat}{f:FuncId}{args:List A}{h:Heap}{vals:List Value}{W:World}
  (hc:evCall P cfg prim k f args []=some (.c (.v (.bool true)),h)) (hG:∀ c arr,Glo.g c=some arr->snap W c=some arr) (ha:ARs (snap W) noRho [] args vals):Calls P f vals.toArray W λe W'=>e = .returned (.bool true)/\Below W.heap.size W W':=by
 refine(acZ (ajT hm) hp k f args [] _ h hc (snap W) noRho W vals (anm W hG) ha).mono ?_
 rintro e W' ⟨v,Φ',ρ',rfl,stp,hv⟩
 simp only[AR,CR,FVR]at hv
 subst hv
 refine⟨rfl,stp.io.os,stp.io.tape,stp.io.output,stp.sz,λc hc=>stp.fr c hc ?_⟩
 rintro ⟨b,k,inf,hk,_⟩
 simp[live]at hk
end Go.Ev
namespace Go.Ev
open Go.RowKit
instance noGlo:Glo:=⟨λ_=>none⟩
instance noItr:Itr:=⟨λ_ _=>none⟩
instance noItrOk{P:Program}:@ItrOk noItr P:=@ItrOk.mk noItr P λ_ _ _ h=>nomatch h
theorem link[Itr]{P:Program}[ItrOk P](hm:P.follows .mixedOrders=true){cfg:Cfg}{prim:FuncId->Option (List A->Heap->Option (A×Heap))}(hp:agr P prim){k:Nat}{f:FuncId}{args:List A}{h:Heap}{vals:List Value}{W:World}
  (hc:evCall P cfg prim k f args []=some (.c (.v (.bool true)),h)) (ha:ARs (snap W) noRho [] args vals):Calls P f vals.toArray W λe W'=>e = .returned (.bool true)/\Below W.heap.size W W':=
 apr hm hp hc (λc arr h=>by cases h) ha
end Go.Ev
