import Derived.Test.YtganajogkdinaaaGreatEvSim
set_option linter.all false
namespace Go.Ev
variable{α β:Type}
def aiy{γ:Type}(els:List γ):Bool:=decide (els.length<=4611686018427387904)
def shortC{γ:Type}(n:Int)(els:List γ):Bool:=aiy els&&(decide (0<n)&&decide (n<=4611686018427387904))
def afD(l:List α):List (Int×α):=(l.zipIdx.map λp=>((p.2:Int),p.1)).reverse
def rowsB(els:List (List FV)):List (List A):=(afD els).map λp=>[A.int .i64 p.1,.agp p.2]
theorem backL_map(e:α->β)(l:List α):afD (l.map e)=(afD l).map λp=>(p.1,e p.2):=by
 unfold afD
 rw[List.zipIdx_map,<-List.map_reverse,<-List.map_reverse,<-List.map_reverse,List.map_map,List.map_map]
 rfl
theorem aj6(e:α->List FV)(l:List α):rowsB (l.map e)=(afD l).map λp=>[A.int .i64 p.1,.agp (e p.2)]:=by
 unfold rowsB
 rw[backL_map,List.map_map]
 rfl
def chunkF:Nat->Nat->List α->List (List α)
 | 0,_,_=>[]
 | f+1,n,l=>match l with
  | []=>[]
  | x::r=>(x::r).take n::chunkF f n ((x::r).drop n)
def adB(n:Int)(l:List α):List (List α):=chunkF l.length n.toNat l
theorem aeU(e:α->β):∀ (f n:Nat) (l:List α),chunkF f n (l.map e)=(chunkF f n l).map (·.map e)
 | 0,_,_=>rfl
 | f+1,n,[]=>rfl
 | f+1,n,x::r=>by
  have:=aeU e f n ((x::r).drop n)
  simp only[chunkF,List.map_cons,List.map_take,List.map_drop]at this ⊢
  rw[<-this]
theorem chunkL_map(e:α->β)(n:Int)(l:List α):adB n (l.map e)=(adB n l).map (·.map e):=by
 unfold adB
 rw[List.length_map,aeU]
def ab4(sz:Nat)(n:Int)(els:List (List FV)):List (List A):=(adB n els).map λc=>[.c (.v (.sl sz c none))]
theorem aj5(sz:Nat)(e:α->List FV)(n:Int)(l:List α):ab4 sz n (l.map e)=(adB n l).map λc=>[.c (.v (.sl sz (c.map e) none))]:=by
 unfold ab4
 rw[chunkL_map,List.map_map]
 rfl
theorem aos{A1 A2 A3:Prop}(e:α->List FV)(l:List α)(x:Nat):(A1/\A2/\A3/\x<=l.length)->All [A1,A2,A3,x<=(l.map e).length]:=λh=>by
 simp only[All,List.length_map,and_true];exact h
end Go.Ev
