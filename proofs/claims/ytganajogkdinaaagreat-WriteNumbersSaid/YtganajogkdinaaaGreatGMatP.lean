import Derived.Test.YtganajogkdinaaaGreatGSameP
import Derived.Test.YtganajogkdinaaaGreatGModUP
set_option linter.all false
namespace Go.R4.Mt
open Go.Proofs Go.Ev Mo
set_option maxRecDepth 100000
variable{c:List ag}{i:Nat}{d:Int}{op dn:List Span}{x:ag}
def shift(o:Int)(s:Span):Span:=⟨s.At+o,if s.Else<0 then s.Else else s.Else+o,s.End+o⟩
structure BIn(B:List ag)(lo hi:Int)(D:List Span):Prop where
 one:∀ s∈D,lo<=s.At/\s.At<s.End/\s.End<hi/\(∃ x,B[s.End.toNat]?=some x/\x.Op=11)/\(s.Else = -1∨s.At<s.Else/\s.Else<s.End/\∃ x,B[s.At.toNat]?=some x/\x.Op=4)
 two:∀ s∈D,∀ t∈D,s.At<t.At->(t.At<s.End->t.End<s.End)/\(0<=s.Else->t.At<s.Else->t.End<s.Else)
 keys:(D.map kAt).Nodup
theorem BIn.nil{B:List ag}{lo hi:Int}:BIn B lo hi []:=⟨(λ_ h=>by cases h),(λ_ h=>by cases h),List.Pairwise.nil⟩
theorem BIn.wrap{B:List ag}{lo lo' hi' hi:Int}{D:List Span}{A:Span}(h:BIn B lo' hi' D)(h1:lo<=A.At)(h2:A.At<lo')(h3:hi'<=A.End)(h4:A.End<hi)(hAE:A.At<A.End)
  (h5:∃ x,B[A.End.toNat]?=some x/\x.Op=11) (h6:A.Else = -1∨A.At<A.Else/\A.Else<A.End/\∃ x,B[A.At.toNat]?=some x/\x.Op=4) (h7:0<=A.Else->∀ t∈D,t.At<A.Else->t.End<A.Else):BIn B lo hi (D++[A]):=by
 refine⟨λs hs=>?_,λs hs t ht hst=>?_,?_⟩
 ·rcases List.mem_append.1 hs with g | g
  ·obtain⟨a,b,c,d⟩:=h.one s g;exact⟨by omega,b,by omega,d⟩
  ·rw[List.mem_singleton]at g;subst g;exact⟨h1,hAE,h4,h5,h6⟩
 ·rcases List.mem_append.1 hs with g | g <;> rcases List.mem_append.1 ht with g' | g'
  ·exact h.two s g t g' hst
  ·rw[List.mem_singleton]at g';subst g'
   obtain⟨a,-⟩:=h.one s g
   omega
  ·rw[List.mem_singleton]at g;subst g
   obtain⟨a,b,c,-⟩:=h.one t g'
   exact⟨λ_=>by omega,λq w=>h7 q t g' w⟩
  ·rw[List.mem_singleton]at g g';subst g;subst g';omega
 ·rw[List.map_append,List.nodup_append]
  refine⟨h.keys,by simp,λa ha b hb hab=>?_⟩
  obtain⟨s,hs,rfl⟩:=List.mem_map.1 ha
  simp only[List.map_cons,List.map_nil,List.mem_singleton]at hb
  subst hb
  obtain⟨q,-⟩:=h.one s hs
  rw[kAt_eq,kAt_eq]at hab
  omega
theorem amV{α:Type}{pre b post:List α}{i:Int}{x:α}(h0:0<=i)(h:b[i.toNat]?=some x):(pre++b++post)[(i+(pre.length:Nat)).toNat]?=some x:=by
 have hi:i.toNat<b.length:=(List.getElem?_eq_some_iff.1 h).1
 have e:(i+(pre.length:Nat)).toNat=pre.length+i.toNat:=by omega
 rw[e,List.append_assoc,List.getElem?_append_right (by omega),Nat.add_sub_cancel_left,List.getElem?_append_left hi,h]
theorem BIn.shift{b:List ag}{D:List Span}(h:BIn b 0 b.length D)(pre post:List ag):BIn (pre++b++post) pre.length (pre.length+b.length) (D.map (shift pre.length)):=by
 refine⟨λs hs=>?_,λs hs t ht hst=>?_,?_⟩
 ·obtain⟨s,hs0,rfl⟩:=List.mem_map.1 hs
  obtain⟨h1,h2,h3,⟨x,h4,h5⟩,h6⟩:=h.one s hs0
  refine⟨by simp only[Go.R4.Mt.shift];omega,by simp only[Go.R4.Mt.shift];omega,by simp only[Go.R4.Mt.shift];omega,⟨x,amV (by omega) h4,h5⟩,?_⟩
  rcases h6 with h6 | ⟨h6,h7,y,h8,h9⟩
  ·left;simp only[Go.R4.Mt.shift,h6];rfl
  ·right
   simp only[Go.R4.Mt.shift]
   rw[if_neg (by omega)]
   exact⟨by omega,by omega,y,amV (by omega) h8,h9⟩
 ·obtain⟨s,hs0,rfl⟩:=List.mem_map.1 hs
  obtain⟨t,ht0,rfl⟩:=List.mem_map.1 ht
  simp only[Go.R4.Mt.shift]at hst ⊢
  obtain⟨h1,h2⟩:=h.two s hs0 t ht0 (by omega)
  refine⟨λq=>by have:=h1 (by omega);omega,λq w=>?_⟩
  split at w
  ·rename_i hneg;rw[if_pos hneg]at q;omega
  ·rename_i hneg
   rw[if_neg hneg]
   have:=h2 (by omega) (by omega)
   omega
 ·rw[List.map_map]
  have:(kAt ∘ Go.R4.Mt.shift pre.length)=λs=>kAt s+(pre.length:Int):=rfl
  rw[this]
  have e:(D.map λs=>kAt s+(pre.length:Int))=(D.map kAt).map (· + (pre.length:Int)):=by rw[List.map_map];rfl
  rw[e]
  have hk:=h.keys
  rw[List.Nodup]at hk ⊢
  rw[List.pairwise_map]
  exact hk.imp λhne q=>hne (by omega)
theorem _root_.Go.R4.Mo.Fine.ops{i:ag}(h:Fine i):¬(2<=i.Op/\i.Op<=4)/\i.Op≠5/\i.Op≠11:=by
 have n1:(opsL.all λo=>decide (¬(2<=o/\o<=4)/\o≠5/\o≠11))=true:=by kernel_rfl
 have n2:(accL.all λo=>decide (¬(2<=o/\o<=4)/\o≠5/\o≠11))=true:=by kernel_rfl
 cases h with
 | num h=>exact of_decide_eq_true (List.all_eq_true.1 n1 _ h)
 | acc h _ _ _ _=>exact of_decide_eq_true (List.all_eq_true.1 n2 _ h)
 | bare h=>dsimp only;omega
 | loc h _ _=>dsimp only;omega
 | glo h _ _=>dsimp only;omega
 | mem h _ _=>dsimp only;omega
 | call h _ _=>dsimp only;omega
 | br h _ _=>dsimp only;omega
 |_=>dsimp only;omega
end Go.R4.Mt
