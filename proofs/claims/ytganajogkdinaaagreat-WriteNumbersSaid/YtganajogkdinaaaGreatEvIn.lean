import Derived.Test.YtganajogkdinaaaGreatEvRd
import Derived.SizedLaws
import Derived.ChangeArms
import Derived.DataReads
import Derived.Carry
set_option linter.all false
namespace Go.Ev
variable[Glo]
open Go.WideShapes
def Fits(P:Program):Nat->TypeId->List FV->Prop
 | 0,_,_=>False
 | n+1,t,cs=>match P.underlying t with
  | some .bool=>∃ b,cs=[.bool b]
  | some (.int k)=>∃ m,cs=[.int k m]/\inR k m
  | some .string=>∃ s,cs=[.str s]/\s.size<=bigN
  | some (.slice e)=>∃ els,cs=[.sl (P.cellsOf e) els none]/\els.length*P.bytesOf e<=bigN/\∀ x∈els,Fits P n e x
  | some (.struct fs)=>∃ parts:List (List FV),cs=parts.flatten/\parts.length=fs.size/\∀ (i:Nat) (f:Field) (p:List FV),fs[i]?=some f->parts[i]?=some p->Fits P n f.type p
  |_=>False
theorem add_zero(a:Addr):a.add 0=a:=by unfold Addr.add;simp
section
variable{P:Program}{n:Nat}{t:TypeId}{cs:List FV}
theorem Fits.int{k:IntKind}(hu:P.underlying t=some (.int k))(h:Fits P (n+1) t cs):∃ m,cs=eI k m/\inR k m:=by
 unfold Fits at h;rw[hu]at h;exact h
theorem Fits.bool(hu:P.underlying t=some .bool)(h:Fits P (n+1) t cs):∃ b,cs=eB b:=by
 unfold Fits at h;rw[hu]at h;exact h
theorem Fits.str(hu:P.underlying t=some .string)(h:Fits P (n+1) t cs):∃ s,cs=eS s/\s.size<=bigN:=by
 unfold Fits at h;rw[hu]at h;exact h
theorem aev{β:Type}{e:β->List FV}{W:β->Prop}:∀ {els:List (List FV)},(∀ x∈els,∃ y,x=e y/\W y)->∃ l:List β,els=l.map e/\∀ y∈l,W y
 | [],_=>⟨[],rfl,by simp⟩
 | x::r,h=>by
  obtain⟨y,rfl,hy⟩:=h x (by simp)
  obtain⟨l,rfl,hl⟩:=aev (els:=r) (λz hz=>h z (by simp[hz]))
  exact⟨y::l,rfl,λz hz=>by rcases List.mem_cons.1 hz with rfl | hz;exact hy;exact hl z hz⟩
theorem Fits.slice{β:Type}{e:β->List FV}{W:β->Prop}{et:TypeId}{sz by_:Nat}(hu:P.underlying t=some (.slice et))(hs:P.cellsOf et=sz)(hb:P.bytesOf et=by_)(hd:∀ cs,Fits P n et cs->∃ x,cs=e x/\W x)(h:Fits P (n+1) t cs) :
  ∃ l:List β,cs=eL sz e l/\l.length*by_<=bigN/\∀ x∈l,W x:=by
 unfold Fits at h;rw[hu]at h
 obtain⟨els,rfl,h1,h2⟩:=h
 obtain⟨l,rfl,hl⟩:=aev (λx hx=>hd x (h2 x hx))
 exact⟨l,by rw[hs];rfl,by rw[<-hb];simpa using h1,hl⟩
theorem Fits.struct{fs:Array Field}(hu:P.underlying t=some (.struct fs))(h:Fits P (n+1) t cs) :
  ∃ parts:List (List FV),cs=parts.flatten/\parts.length=fs.size/\∀ (i:Nat) (f:Field) (p:List FV),fs[i]?=some f->parts[i]?=some p->Fits P n f.type p:=by
 unfold Fits at h;rw[hu]at h;exact h
end
section
open Go.WideShapes Go.RowKit
variable{H:Type}{enc:TypeId×Value->H}{P:Program}{W:World}
end
end Go.Ev
