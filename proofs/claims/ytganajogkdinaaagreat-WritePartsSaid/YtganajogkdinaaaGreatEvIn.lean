import Derived.Test.YtganajogkdinaaaGreatEvRd
import Derived.SizedLaws
import Derived.ChangeArms
import Derived.DataReads
import Derived.Carry
set_option linter.all false
namespace Go.Ev
variable[Glo]
open Go.WideShapes
def Fits(P:Program):Nat->TypeId->List FV->Prop
 | 0,_,_=>False
 | n+1,t,cs=>match P.underlying t with
  | some .bool=>∃ b,cs=[.bool b]
  | some (.int k)=>∃ m,cs=[.int k m]/\inR k m
  | some .string=>∃ s,cs=[.str s]/\s.size<=bigN
  | some (.slice e)=>∃ els,cs=[.sl (P.cellsOf e) els none]/\els.length*P.bytesOf e<=bigN/\∀ x∈els,Fits P n e x
  | some (.struct fs)=>∃ parts:List (List FV),cs=parts.flatten/\parts.length=fs.size/\∀ (i:Nat) (f:Field) (p:List FV),fs[i]?=some f->parts[i]?=some p->Fits P n f.type p
  |_=>False
def tight(P:Program):Nat->List Field->Option Nat
 | o,[]=>some o
 | o,f::r=>if f.offset=o then tight P (o+P.cellsOf f.type) r else none
def okT(P:Program):Nat->TypeId->Bool
 | 0,_=>false
 | n+1,t=>match P.underlying t with
  | some .bool | some (.int _) | some .string=>P.cellsOf t == 1
  | some (.slice e)=>P.cellsOf t == 1&&decide (0<P.cellsOf e)&&okT P n e
  | some (.struct fs)=>tight P 0 fs.toList == some (P.cellsOf t)&&fs.toList.all λf=>okT P n f.type
  |_=>false
theorem aoE{k:IntKind}{m:Int}(h:(Lit.int k m).wf=true):inR k m:=by
 cases k <;> simpa[Lit.wf,IntKind.min,IntKind.max,IntKind.signed,IntKind.bits,inR]using h
theorem afy{w:World}{a:Addr}{v:Value}(h:w.cell? a=some v):a.spot=none/\∃ arr,snap w a.block=some arr/\arr[a.off]?=some v:=by
 unfold World.cell? at h
 split at h
 ·rename_i c ty fz hb
  split at h
  ·cases h
  ·rename_i hs
   refine⟨by simpa using hs,c,by simp[snap,hb],h⟩
 ·cases h
theorem add_block(a:Addr)(i:Nat):(a.add i).block=a.block:=by unfold Addr.add;split <;> rfl
theorem add_off(a:Addr)(i:Nat):(a.add i).off=a.off+i:=by
 unfold Addr.add
 split
 ·rename_i h;subst h;rfl
 ·rfl
theorem add_zero(a:Addr):a.add 0=a:=by unfold Addr.add;simp
section
variable{H:Type}{enc:TypeId×Value->H}{P:Program}{w:World}{spare:Nat->Bool}{held:Bool}
theorem adH{t:TypeId}:∀ {e:TypeId}{ds:List (DataW H)}{d:DataW H},d∈ds->(DataW.weightsAll P e ds).all (· ≤ reachBytes)=true->(d.weights P e).all (· ≤ reachBytes)=true
 | e,[],d,h,_=>by simp at h
 | e,x::r,d,h,hw=>by
  simp only[DataW.weightsAll,List.all_append,Bool.and_eq_true]at hw
  rcases List.mem_cons.1 h with rfl | h
  ·exact hw.1
  ·exact adH (t:=t) h hw.2
theorem weights_each:∀ {ts:List TypeId}{ds:List (DataW H)}{i:Nat}{t:TypeId}{d:DataW H},ts[i]?=some t->ds[i]?=some d->(DataW.weightsEach P ts ds).all (· ≤ reachBytes)=true->(d.weights P t).all (· ≤ reachBytes)=true:=by
 intro ts ds i t d ht hd hw
 rw[List.all_eq_true]at hw ⊢
 exact λn hn=>hw n (DataW.weights_mem_each ht hd n hn)
theorem agR{Φ:Phi}{n:Nat}{vs:List Value}{F:TypeId->List FV->Prop}:∀ {fs:List Field}{o m:Nat},tight P o fs=some m →
  (∀ f∈fs,∃ cs,cs.length=P.cellsOf f.type/\FVRs Φ cs (((vs.drop f.offset).take (P.cellsOf f.type))[·]?) 0/\F f.type cs)->m<=vs.length →
  ∃ parts:List (List FV),parts.length=fs.length/\parts.flatten.length+o=m/\FVRs Φ parts.flatten (vs[·]?) o/\∀ (i:Nat) (f:Field) (p:List FV),fs[i]?=some f->parts[i]?=some p->F f.type p
 | [],o,m,h,_,_=>by
  simp only[tight,Option.some.injEq]at h
  subst h
  exact⟨[],rfl,by simp,by simp[FVRs],λi f p hi=>by simp at hi⟩
 | f::r,o,m,h,hf,hm=>by
  simp only[tight]at h
  split at h
  ·rename_i ho
   subst ho
   obtain⟨parts,g1,g2,g3,g4⟩:=agR (n:=n) h (λg hg=>hf g (by simp[hg])) hm
   obtain⟨cs,c1,c2,c3⟩:=hf f (by simp)
   refine⟨cs::parts,by simp[g1],by simp only[List.flatten_cons,List.length_append];omega,?_,?_⟩
   ·simp only[List.flatten_cons]
    rw[aaU]at c2 g3 ⊢
    intro i x hi
    by_cases hlt:i<cs.length
    ·rw[List.getElem?_append_left hlt]at hi
     obtain⟨v,v1,v2⟩:=c2 i x hi
     refine⟨v,?_,v2⟩
     simp only[Nat.zero_add,List.getElem?_take,List.getElem?_drop]at v1
     split at v1
     ·exact v1
     ·cases v1
    ·rw[List.getElem?_append_right (by omega)]at hi
     obtain⟨v,v1,v2⟩:=g3 _ x hi
     refine⟨v,?_,v2⟩
     rw[<-v1]
     show vs[f.offset+i]?=vs[f.offset+P.cellsOf f.type+(i-cs.length)]?
     congr 1;omega
   ·intro i g p hi hp
    cases i with
    | zero=>simp at hi hp;subst hi;subst hp;exact c3
    | succ i=>simp at hi hp;exact g4 i g p hi hp
  ·cases h
theorem aeU:∀ (n:Nat) {t:TypeId}{fuel:Nat}{vs:List Value}{x:DataW H×List MemPlace},okT P n t=true->DataW.trod enc P w 0 spare held fuel t vs=some x->(x.1.weights P t).all (· ≤ reachBytes)=true →
  ∃ cs,cs.length=P.cellsOf t/\vs.length=P.cellsOf t/\FVRs (snap w) cs (vs[·]?) 0/\Fits P n t cs
 | 0,t,fuel,vs,x,hok,_,_=>by simp[okT]at hok
 | n+1,t,fuel,vs,x,hok,h,hw=>by
  unfold okT at hok
  unfold Fits
  cases hu:P.underlying t with
  | none=>simp[hu]at hok
  | some d=>
   rw[hu]at hok
   cases d <;> simp only[Bool.false_eq_true]at hok
   case bool=>
    obtain⟨b,rfl,rfl⟩:=DataW.trod_bool hu h
    have hs:P.cellsOf t=1:=by simpa using hok
    exact⟨[.bool b],by simp[hs],by simp[hs],by simp[FVRs,FVR],b,rfl⟩
   case int k=>
    obtain⟨m,rfl,rfl,hm⟩:=DataW.trod_int hu h
    have hs:P.cellsOf t=1:=by simpa using hok
    exact⟨[.int k m],by simp[hs],by simp[hs],by simp[FVRs,FVR],m,rfl,aoE hm⟩
   case string=>
    obtain⟨s,rfl,rfl,hm⟩:=DataW.trod_string hu h
    have hs:P.cellsOf t=1:=by simpa using hok
    refine⟨[.str s],by simp[hs],by simp[hs],by simp[FVRs,FVR],s,rfl,?_⟩
    have hz:s.size<=reachBytes:=by
     have h2:s.data.toList.length=s.size:=Array.length_toList
     rw[<-h2]
     simp only[DataW.weights,List.all_cons,List.all_nil,Bool.and_true,decide_eq_true_eq]at hw
     exact hw
    exact hz
   case slice e=>
    simp only[Bool.and_eq_true,decide_eq_true_eq,beq_iff_eq]at hok
    obtain⟨⟨hs,hpos⟩,hoke⟩:=hok
    rcases DataW.trod_slice hu h with⟨rfl,rfl⟩ | ⟨a,len,cap,elems,rest,m,rfl,rfl,rfl,_,hl,hm,hlen,hel,_,_⟩
    ·refine⟨[.sl (P.cellsOf e) [] none],by simp[hs],by simp[hs],?_,[],rfl,by simp,by simp⟩
     simp only[FVRs,FVR,and_true]
     exact⟨_,rfl,none,0,rfl,⟨by simp,by simp⟩,by simp,by simp⟩
    ·simp only[DataW.weights,hu,List.all_cons,Bool.and_eq_true,decide_eq_true_eq,List.all_append,List.length_map]at hw
     obtain⟨hw1,hw2,_⟩:=hw
     have each:∀ i,i<len->∃ cs:List FV,(∃ vs',w.cells? 0 (a.add (i*P.cellsOf e)) (P.cellsOf e)=some vs'/\cs.length=P.cellsOf e/\FVRs (snap w) cs (vs'[·]?) 0)/\Fits P n e cs:=by
      intro i hi
      have h1:=hel i hi
      have hlt:i<elems.length:=by omega
      rw[List.getElem?_eq_getElem hlt,Option.bind_eq_some_iff]at h1
      obtain⟨vs',h2,h3⟩:=h1
      obtain⟨cs,g1,g2,g3,g4⟩:=aeU n hoke h3 (adH (t:=t) (List.mem_map_of_mem (List.getElem_mem hlt)) hw2)
      exact⟨cs,⟨vs',h2,g1,g3⟩,g4⟩
     let els:List (List FV):=(List.range len).map λi=>if hi:i<len then Classical.choose (each i hi)else[]
     have hels:∀ i (hi:i<len),els[i]?=some (Classical.choose (each i hi)):=by
      intro i hi
      simp[els,hi]
     have hlen2:els.length=len:=by simp[els]
     refine⟨[.sl (P.cellsOf e) els none],by simp[hs],by simp[hs],?_,els,rfl,?_,?_⟩
     ·simp only[FVRs,FVR,and_true]
      refine⟨_,rfl,some a,cap,by rw[hlen2],⟨by omega,by simp⟩,⟨by omega,by simp⟩,?_⟩
      by_cases h0:len=0
      ·left;exact List.eq_nil_of_length_eq_zero (by omega)
      ·right
       have h00:0<len:=by omega
       obtain⟨⟨vs0,k1,k2,k3⟩,k4⟩:=Classical.choose_spec (each 0 h00)
       obtain⟨_,q1,q2⟩:=World.cells?_some k1
       have q3:=q2 0 hpos
       rw[List.getElem?_eq_getElem (by omega)]at q3
       obtain⟨s1,arr,s2,s3⟩:=afy q3
       rw[add_block,add_block]at s2
       rw[add_zero,Nat.zero_mul,add_zero]at s1
       refine⟨a.block,a.off,arr,?_,s2,?_⟩
       ·cases a;simp_all
       ·rw[aaA]
        intro i x hi
        have hilt:i<len:=by rw[<-hlen2];exact(List.getElem?_eq_some_iff.1 hi).1
        rw[hels i hilt]at hi
        cases hi
        obtain⟨⟨vs1,k1,k2,k3⟩,k4⟩:=Classical.choose_spec (each i hilt)
        refine⟨k2,?_⟩
        rw[aaU]at k3 ⊢
        intro j y hj
        obtain⟨v,v1,v2⟩:=k3 j y hj
        refine⟨v,?_,v2⟩
        have hj2:j<P.cellsOf e:=by rw[<-k2];exact(List.getElem?_eq_some_iff.1 hj).1
        obtain⟨_,_,q2⟩:=World.cells?_some k1
        have q3:=q2 j hj2
        simp only[Nat.zero_add]at v1
        rw[v1]at q3
        obtain⟨_,arr',s2',s3'⟩:=afy q3
        rw[add_block,add_block]at s2'
        rw[add_off,add_off]at s3'
        rw[s2]at s2';cases s2'
        show arr[a.off+i*P.cellsOf e+j]?=some v
        exact s3'
     ·rw[hlen2]
      have:len<=elems.length+rest.length:=by omega
      have:=Nat.mul_le_mul_right (P.bytesOf e) this
      have hr:reachBytes=bigN:=rfl
      rw[<-hr]
      exact Nat.le_trans this hw1
     ·intro x hx
      obtain⟨i,hi⟩:=List.getElem?_of_mem hx
      have hilt:i<len:=by rw[<-hlen2];exact(List.getElem?_eq_some_iff.1 hi).1
      rw[hels i hilt]at hi
      cases hi
      exact(Classical.choose_spec (each i hilt)).2
   case struct fs=>
    simp only[Bool.and_eq_true,beq_iff_eq]at hok
    obtain⟨ht,hall⟩:=hok
    obtain⟨xs,m,rfl,rfl,hlen,hxs,hf⟩:=DataW.trod_struct hu h
    simp only[DataW.weights,hu]at hw
    have each:∀ f∈fs.toList,∃ cs,cs.length=P.cellsOf f.type/\FVRs (snap w) cs (((vs.drop f.offset).take (P.cellsOf f.type))[·]?) 0/\Fits P n f.type cs:=by
     intro f hfm
     obtain⟨i,hi⟩:=List.getElem?_of_mem hfm
     have hi':fs[i]?=some f:=by simpa using hi
     have h1:=hf i f hi'
     have hlt:i<xs.length:=by rw[hxs];exact(Array.getElem?_eq_some_iff.1 hi').1
     rw[List.getElem?_eq_getElem hlt]at h1
     have hok1:okT P n f.type=true:=(List.all_eq_true.1 hall) f hfm
     have hd:(xs.map (·.1))[i]?=some xs[i].1:=by simp[hlt]
     obtain⟨cs,g1,g2,g3,g4⟩:=aeU n hok1 h1 (weights_each (ts:=fs.toList.map (·.type)) (i:=i) (by simp[hi']) hd hw)
     exact⟨cs,g1,g3,g4⟩
    obtain⟨parts,g1,g2,g3,g4⟩:=agR (n:=n) ht each (by omega)
    exact⟨parts.flatten,by simpa using g2,hlen,g3,parts,rfl,by simpa using g1,λi f p hi hp=>g4 i f p (by simpa using hi) hp⟩
end
section
variable{P:Program}{n:Nat}{t:TypeId}{cs:List FV}
theorem Fits.int{k:IntKind}(hu:P.underlying t=some (.int k))(h:Fits P (n+1) t cs):∃ m,cs=eI k m/\inR k m:=by
 unfold Fits at h;rw[hu]at h;exact h
theorem Fits.bool(hu:P.underlying t=some .bool)(h:Fits P (n+1) t cs):∃ b,cs=eB b:=by
 unfold Fits at h;rw[hu]at h;exact h
theorem Fits.str(hu:P.underlying t=some .string)(h:Fits P (n+1) t cs):∃ s,cs=eS s/\s.size<=bigN:=by
 unfold Fits at h;rw[hu]at h;exact h
theorem aeb{β:Type}{e:β->List FV}{W:β->Prop}:∀ {els:List (List FV)},(∀ x∈els,∃ y,x=e y/\W y)->∃ l:List β,els=l.map e/\∀ y∈l,W y
 | [],_=>⟨[],rfl,by simp⟩
 | x::r,h=>by
  obtain⟨y,rfl,hy⟩:=h x (by simp)
  obtain⟨l,rfl,hl⟩:=aeb (els:=r) (λz hz=>h z (by simp[hz]))
  exact⟨y::l,rfl,λz hz=>by rcases List.mem_cons.1 hz with rfl | hz;exact hy;exact hl z hz⟩
theorem Fits.slice{β:Type}{e:β->List FV}{W:β->Prop}{et:TypeId}{sz by_:Nat}(hu:P.underlying t=some (.slice et))(hs:P.cellsOf et=sz)(hb:P.bytesOf et=by_)(hd:∀ cs,Fits P n et cs->∃ x,cs=e x/\W x)(h:Fits P (n+1) t cs) :
  ∃ l:List β,cs=eL sz e l/\l.length*by_<=bigN/\∀ x∈l,W x:=by
 unfold Fits at h;rw[hu]at h
 obtain⟨els,rfl,h1,h2⟩:=h
 obtain⟨l,rfl,hl⟩:=aeb (λx hx=>hd x (h2 x hx))
 exact⟨l,by rw[hs];rfl,by rw[<-hb];simpa using h1,hl⟩
theorem Fits.struct{fs:Array Field}(hu:P.underlying t=some (.struct fs))(h:Fits P (n+1) t cs) :
  ∃ parts:List (List FV),cs=parts.flatten/\parts.length=fs.size/\∀ (i:Nat) (f:Field) (p:List FV),fs[i]?=some f->parts[i]?=some p->Fits P n f.type p:=by
 unfold Fits at h;rw[hu]at h;exact h
end
def oneA:List FV->A
 | [x]=>.c (.v x)
 |_=>.und
def argA(P:Program)(t:TypeId)(cs:List FV):A:=match aggT P t with
 | some true=>.agp cs
 |_=>oneA cs
section
open Go.WideShapes Go.RowKit
variable{H:Type}{enc:TypeId×Value->H}{P:Program}{W:World}
theorem arg_in{n:Nat}{t:TypeId}{v:Value}{d:DataW H}{ps:List MemPlace}{r:Reach}{base:Nat}(hok:okT P n t=true)(hv:Value.okWide P W r base t v)(h:DataW.Trod enc P W 0 (λ_=>true) true t v d ps)
  (hw:(d.weights P t).all (· ≤ reachBytes)=true):∃ cs,Fits P n t cs/\AR (snap W) noRho [] (argA P t cs) v:=by
 obtain⟨fuel,h⟩:=h
 obtain⟨cs,h1,h2,h3,h4⟩:=aeU n hok h hw
 refine⟨cs,h4,?_⟩
 unfold argA
 cases n with
 | zero=>simp[okT]at hok
 | succ n=>
  unfold okT at hok
  unfold aggT
  cases hu:P.underlying t with
  | none=>simp[hu]at hok
  | some d=>
   rw[hu]at hok
   have one:P.cellsOf t=1->(∀ c,v ≠ .agg c)->AR (snap W) noRho [] (oneA cs) v:=by
    intro hs hne
    rw[hs]at h1 h2
    obtain⟨x,rfl⟩:=List.length_eq_one_iff.1 h1
    have hcell:v.cells = #[v]:=by cases v <;> first | rfl | exact absurd rfl (hne _)
    simp only[FVRs,and_true]at h3
    obtain⟨u,hu1,hu2⟩:=h3
    rw[hcell]at hu1
    simp at hu1
    subst hu1
    simp only[oneA,AR,CR]
    exact hu2
   cases d <;> simp only[Bool.false_eq_true]at hok
   case bool=>obtain⟨b,rfl⟩:=okWide_bool hu hv;exact one (by simpa using hok) (by simp)
   case int=>obtain⟨b,rfl⟩:=okWide_int hu hv;exact one (by simpa using hok) (by simp)
   case string=>obtain⟨b,rfl⟩:=okWide_string hu hv;exact one (by simpa using hok) (by simp)
   case slice=>obtain⟨a,b,c,rfl⟩:=okWide_slice hu hv;exact one (by simp at hok;exact hok.1.1) (by simp)
   case struct=>
    obtain⟨arr,rfl,ha⟩:=okWide_struct hu hv
    simp only[AR]
    refine⟨arr,rfl,by omega,?_⟩
    simpa[Value.cells]using h3
theorem back_in{t:TypeId}{v:Value}{d:DataW H}{ps:List MemPlace}{W':World}(hl:laidOutB P=true)(hr:(P.readableRec t&&decide (t<P.types.size))=true)(h:DataW.Trod enc P W 0 (λ_=>true) true t v d ps)(hb:Below W.heap.size W W') :
  DataW.Trod enc P W' 0 (λb=>decide (b<W.heap.size)) true t v d ps:=by
 simp only[Bool.and_eq_true,decide_eq_true_eq]at hr
 have lt:∀ x∈ps,x.block<W.heap.size:=by obtain⟨m,hm⟩:=h;exact DataW.trod_lt m _ _ _ hm
 exact Go.RowKit.Below.trod hl hr.1 hr.2 h hb lt
end
end Go.Ev
