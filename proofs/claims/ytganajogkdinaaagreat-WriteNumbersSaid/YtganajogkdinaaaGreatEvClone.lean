import Derived.Test.YtganajogkdinaaaGreatEvRd
import Derived.Test.YtganajogkdinaaaGreatEvDraw3
set_option linter.all false
namespace Go.Ev
variable[Glo]
abbrev ad4:FuncId->Option (List A->Heap->Option (A×Heap)):=λ_=>none
structure CloneRun(P:Program)(cfg:Cfg)(f sz by_:Nat):Prop where
 pos:0<sz
 nil:∀ c,∃ k,evCall P cfg ad4 k f [.c (.v (.sl 0 [] (some c)))] []=some (.c (.v (.sl 0 [] (some 0))),[])
 fro:∀ (l:List (List FV)) c,room l.length by_=true->∃ k,evCall P cfg ad4 k f [.c (.v (.sl sz l (some c)))] []=some (.c (.slw 0 sz l.length),[some (.pur sz l)])
 own:∀ (l:List (List FV)),0<l.length->room l.length by_=true->∃ k,evCall P cfg ad4 k f [.c (.slw 0 sz l.length)] [some (.pur sz l)]=some (.c (.slw 1 sz l.length),[some (.pur sz l),some (.pur sz l)])
 sub:∀ (l:List (List FV)) (i n:Nat) cap,0<n->i+n<=l.length->room n by_=true->∃ k,evCall P cfg ad4 k f [.c (.sl 0 sz i n cap)] [some (.pur sz l)]=some (.c (.slw 1 sz n),[some (.pur sz l),some (.pur sz ((l.drop i).take n))])
variable{P:Program}{cfg:Cfg}{f sz by_:Nat}{Φ:Phi}{ρ:Rho}{w:World}
theorem ai5(P:Program):agr P ad4:=λf p h=>by cases h
end Go.Ev
