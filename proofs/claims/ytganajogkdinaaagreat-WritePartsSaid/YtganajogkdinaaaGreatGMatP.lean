import Derived.Test.YtganajogkdinaaaGreatGSameP
import Derived.Test.YtganajogkdinaaaGreatGModUP
set_option linter.all false
namespace Go.R4.Mt
open Go.Proofs Go.Ev Mo
set_option maxRecDepth 100000
variable{c:List ag}{i:Nat}{d:Int}{op dn:List Span}{x:ag}
def shift(o:Int)(s:Span):Span:=⟨s.At+o,if s.Else<0 then s.Else else s.Else+o,s.End+o⟩
theorem aeo(s:Span):shift 0 s=s:=by
 obtain⟨a,e,t⟩:=s
 unfold shift
 simp only[Int.add_zero]
 split <;> rfl
theorem abJ(o p:Int)(ho:0<=o)(s:Span):shift p (shift o s)=shift (o+p) s:=by
 obtain⟨a,e,t⟩:=s
 unfold shift
 simp only
 by_cases h:e<0
 ·simp only[if_pos h];rw[Int.add_assoc,Int.add_assoc]
 ·rw[if_neg h,if_neg h,if_neg (by omega)];simp only[Int.add_assoc]
structure BIn(B:List ag)(lo hi:Int)(D:List Span):Prop where
 one:∀ s∈D,lo<=s.At/\s.At<s.End/\s.End<hi/\(∃ x,B[s.End.toNat]?=some x/\x.Op=11)/\(s.Else = -1∨s.At<s.Else/\s.Else<s.End/\∃ x,B[s.At.toNat]?=some x/\x.Op=4)
 two:∀ s∈D,∀ t∈D,s.At<t.At->(t.At<s.End->t.End<s.End)/\(0<=s.Else->t.At<s.Else->t.End<s.Else)
 keys:(D.map kAt).Nodup
theorem BIn.nil{B:List ag}{lo hi:Int}:BIn B lo hi []:=⟨(λ_ h=>by cases h),(λ_ h=>by cases h),List.Pairwise.nil⟩
theorem BIn.join{B:List ag}{lo m m' hi:Int}{D1 D2:List Span}(h1:BIn B lo m D1)(h2:BIn B m' hi D2)(hm:m<=m')(hl:lo<=m')(hh:m<=hi):BIn B lo hi (D1++D2):=by
 refine⟨λs hs=>?_,λs hs t ht hst=>?_,?_⟩
 ·rcases List.mem_append.1 hs with h | h
  ·obtain⟨a,b,c,d⟩:=h1.one s h;exact⟨a,b,by omega,d⟩
  ·obtain⟨a,b,c,d⟩:=h2.one s h;exact⟨by omega,b,c,d⟩
 ·rcases List.mem_append.1 hs with h | h <;> rcases List.mem_append.1 ht with g | g
  ·exact h1.two s h t g hst
  ·obtain⟨a,b,c,-,e⟩:=h1.one s h
   obtain⟨a',b',c',-⟩:=h2.one t g
   exact⟨λ_=>by omega,λ_ _=>by rcases e with e | ⟨-,e,-⟩ <;> omega⟩
  ·obtain⟨a,b,c,-⟩:=h2.one s h
   obtain⟨a',b',c',-⟩:=h1.one t g
   omega
  ·exact h2.two s h t g hst
 ·rw[List.map_append,List.nodup_append]
  refine⟨h1.keys,h2.keys,λa ha b hb hab=>?_⟩
  obtain⟨s,hs,rfl⟩:=List.mem_map.1 ha
  obtain⟨t,ht,rfl⟩:=List.mem_map.1 hb
  obtain⟨-,q1,q2,-⟩:=h1.one s hs
  obtain⟨q3,-⟩:=h2.one t ht
  rw[kAt_eq,kAt_eq]at hab
  omega
theorem BIn.wrap{B:List ag}{lo lo' hi' hi:Int}{D:List Span}{A:Span}(h:BIn B lo' hi' D)(h1:lo<=A.At)(h2:A.At<lo')(h3:hi'<=A.End)(h4:A.End<hi)(hAE:A.At<A.End)
  (h5:∃ x,B[A.End.toNat]?=some x/\x.Op=11) (h6:A.Else = -1∨A.At<A.Else/\A.Else<A.End/\∃ x,B[A.At.toNat]?=some x/\x.Op=4) (h7:0<=A.Else->∀ t∈D,t.At<A.Else->t.End<A.Else):BIn B lo hi (D++[A]):=by
 refine⟨λs hs=>?_,λs hs t ht hst=>?_,?_⟩
 ·rcases List.mem_append.1 hs with g | g
  ·obtain⟨a,b,c,d⟩:=h.one s g;exact⟨by omega,b,by omega,d⟩
  ·rw[List.mem_singleton]at g;subst g;exact⟨h1,hAE,h4,h5,h6⟩
 ·rcases List.mem_append.1 hs with g | g <;> rcases List.mem_append.1 ht with g' | g'
  ·exact h.two s g t g' hst
  ·rw[List.mem_singleton]at g';subst g'
   obtain⟨a,-⟩:=h.one s g
   omega
  ·rw[List.mem_singleton]at g;subst g
   obtain⟨a,b,c,-⟩:=h.one t g'
   exact⟨λ_=>by omega,λq w=>h7 q t g' w⟩
  ·rw[List.mem_singleton]at g g';subst g;subst g';omega
 ·rw[List.map_append,List.nodup_append]
  refine⟨h.keys,by simp,λa ha b hb hab=>?_⟩
  obtain⟨s,hs,rfl⟩:=List.mem_map.1 ha
  simp only[List.map_cons,List.map_nil,List.mem_singleton]at hb
  subst hb
  obtain⟨q,-⟩:=h.one s hs
  rw[kAt_eq,kAt_eq]at hab
  omega
theorem amB{α:Type}{pre b post:List α}{i:Int}{x:α}(h0:0<=i)(h:b[i.toNat]?=some x):(pre++b++post)[(i+(pre.length:Nat)).toNat]?=some x:=by
 have hi:i.toNat<b.length:=(List.getElem?_eq_some_iff.1 h).1
 have e:(i+(pre.length:Nat)).toNat=pre.length+i.toNat:=by omega
 rw[e,List.append_assoc,List.getElem?_append_right (by omega),Nat.add_sub_cancel_left,List.getElem?_append_left hi,h]
theorem BIn.shift{b:List ag}{D:List Span}(h:BIn b 0 b.length D)(pre post:List ag):BIn (pre++b++post) pre.length (pre.length+b.length) (D.map (shift pre.length)):=by
 refine⟨λs hs=>?_,λs hs t ht hst=>?_,?_⟩
 ·obtain⟨s,hs0,rfl⟩:=List.mem_map.1 hs
  obtain⟨h1,h2,h3,⟨x,h4,h5⟩,h6⟩:=h.one s hs0
  refine⟨by simp only[Go.R4.Mt.shift];omega,by simp only[Go.R4.Mt.shift];omega,by simp only[Go.R4.Mt.shift];omega,⟨x,amB (by omega) h4,h5⟩,?_⟩
  rcases h6 with h6 | ⟨h6,h7,y,h8,h9⟩
  ·left;simp only[Go.R4.Mt.shift,h6];rfl
  ·right
   simp only[Go.R4.Mt.shift]
   rw[if_neg (by omega)]
   exact⟨by omega,by omega,y,amB (by omega) h8,h9⟩
 ·obtain⟨s,hs0,rfl⟩:=List.mem_map.1 hs
  obtain⟨t,ht0,rfl⟩:=List.mem_map.1 ht
  simp only[Go.R4.Mt.shift]at hst ⊢
  obtain⟨h1,h2⟩:=h.two s hs0 t ht0 (by omega)
  refine⟨λq=>by have:=h1 (by omega);omega,λq w=>?_⟩
  split at w
  ·rename_i hneg;rw[if_pos hneg]at q;omega
  ·rename_i hneg
   rw[if_neg hneg]
   have:=h2 (by omega) (by omega)
   omega
 ·rw[List.map_map]
  have:(kAt ∘ Go.R4.Mt.shift pre.length)=λs=>kAt s+(pre.length:Int):=rfl
  rw[this]
  have e:(D.map λs=>kAt s+(pre.length:Int))=(D.map kAt).map (· + (pre.length:Int)):=by rw[List.map_map];rfl
  rw[e]
  have hk:=h.keys
  rw[List.Nodup]at hk ⊢
  rw[List.pairwise_map]
  exact hk.imp λhne q=>hne (by omega)
theorem aj0{d m:Int}(h1:0<=d)(h2:d<=60)(h3:m<=60)(h4:0<=m):0<=imax d m/\imax d m<=60:=by
 unfold imax;split <;> omega
theorem _root_.Go.R4.Mo.Fine.ops{i:ag}(h:Fine i):¬(2<=i.Op/\i.Op<=4)/\i.Op≠5/\i.Op≠11:=by
 have n1:(opsL.all λo=>decide (¬(2<=o/\o<=4)/\o≠5/\o≠11))=true:=by kernel_rfl
 have n2:(accL.all λo=>decide (¬(2<=o/\o<=4)/\o≠5/\o≠11))=true:=by kernel_rfl
 cases h with
 | num h=>exact of_decide_eq_true (List.all_eq_true.1 n1 _ h)
 | acc h _ _ _ _=>exact of_decide_eq_true (List.all_eq_true.1 n2 _ h)
 | bare h=>dsimp only;omega
 | loc h _ _=>dsimp only;omega
 | glo h _ _=>dsimp only;omega
 | mem h _ _=>dsimp only;omega
 | call h _ _=>dsimp only;omega
 | br h _ _=>dsimp only;omega
 |_=>dsimp only;omega
def Runs(b:List ag)(n:Nat)(D:List Span):Prop:=
 ∀ (c pre post:List ag) (d:Int) (op dn:List Span) (P:(Int×List Span×List Span)⊕(Int×List Span×List Span)->Prop),c=pre++b++post->post≠[]->c.length<=100000->op.length+n<=60->dn.length+b.length<=1000000->0<=d->d<=60 →
  (∀ d',0<=d'->d'<=60->Lp (Rounds c) (((pre.length+b.length:Nat):Int),d',op,dn++D.map (shift pre.length)) P)->Lp (Rounds c) (((pre.length:Nat):Int),d,op,dn) P
theorem ae3{α:Type}{l:List α}(h:l≠[]):1<=l.length:=List.length_pos_iff.2 h
theorem amI{b:List ag}{D:List Span}(o a:Int)(b1:BIn b 0 b.length D):BIn (⟨o,a,0,0,[]⟩::(b++[END])) 0 ((⟨o,a,0,0,[]⟩:ag)::(b++[END])).length (D.map (shift 1)++[⟨0,-1,(b.length:Int)+1⟩]):=by
 have g:=b1.shift [⟨o,a,0,0,[]⟩] [END]
 have e:(⟨o,a,0,0,[]⟩::(b++[END]):List ag)=[⟨o,a,0,0,[]⟩]++b++[END]:=by simp
 rw[<-e]at g
 simp only[List.length_cons,List.length_nil,Nat.zero_add]at g
 refine BIn.wrap g (by dsimp only;omega) (by dsimp only;omega) (by dsimp only;omega) (by simp <;> omega) (by dsimp only;omega) ⟨END,?_,rfl⟩ (.inl rfl) (λh=>by dsimp only at h;omega)
 dsimp only
 rw[show((b.length:Int)+1).toNat=b.length+1 by omega,List.getElem?_cons_succ]
 exact get_mid' b END [] rfl
theorem aiU{b:List ag}{n:Nat}{D:List Span}{o a:Int}(ho:2<=o/\o<=4)(l1:D.length<=b.length)(r1:Runs b n D):Runs (⟨o,a,0,0,[]⟩::(b++[END])) (n+1) (D.map (shift 1)++[⟨0,-1,(b.length:Int)+1⟩]):=by
 intro c pre post d op dn P hc hp hl hop hdn h1 h2 k
 have pl:=ae3 hp
 simp only[List.length_cons,List.length_append,List.length_nil]at hdn
 have hcl:c.length=pre.length+(b.length+2)+post.length:=by rw[hc];simp <;> omega
 have hx:c[pre.length]?=some ⟨o,a,0,0,[]⟩:=by rw[hc,List.append_assoc];exact get_mid' pre _ _ rfl
 refine round (by omega) (by omega) (adU hx (by dsimp only;omega) (by omega) (by omega)) ?_
 obtain⟨m1,m2⟩:=aj0 (m:=(op.length:Int)+1) h1 h2 (by omega) (by omega)
 have hc2:c=(pre++[⟨o,a,0,0,[]⟩])++b++(END::post):=by rw[hc];simp
 have:=r1 c (pre++[⟨o,a,0,0,[]⟩]) (END::post) _ (op++[⟨pre.length,-1,-1⟩]) dn P hc2 (by simp) hl (by simp;omega) (by omega) m1 m2 (λd' g1 g2=>?_)
 ·simpa using this
 ·have hx2:c[pre.length+1+b.length]?=some END:=by rw[hc2];exact get_mid' _ END post (by simp <;> omega)
  have hl2:(pre++[(⟨o,a,0,0,[]⟩:ag)]).length=pre.length+1:=by simp
  rw[hl2]
  refine round (i:=pre.length+1+b.length) (by omega) (by omega) (aeL (s:=⟨pre.length,-1,-1⟩) hx2 rfl (by omega) (by simp;omega) (by simp;omega)) ?_
  have k':=k d' g1 g2
  have e1:(D.map (shift 1)++[⟨0,-1,(b.length:Int)+1⟩]:List Span).map (shift pre.length)=D.map (shift ((pre.length+1:Nat):Int))++[⟨pre.length,-1,((pre.length+1+b.length:Nat):Int)⟩]:=by
   rw[List.map_append,List.map_map]
   congr 1
   ·refine List.map_congr_left λs _=>?_
    simp only[Function.comp]
    rw[abJ _ _ (by omega)]
    congr 1
    omega
   ·simp only[List.map_cons,List.map_nil,shift]
    rw[if_pos (by omega)]
    congr 2 <;> omega
  rw[e1,<-List.append_assoc]at k'
  have e2:pre.length+((⟨o,a,0,0,[]⟩:ag)::(b++[END])).length=pre.length+1+b.length+1:=by simp;omega
  rw[e2]at k'
  exact k'
theorem _root_.Go.R4.Mo.Seq.blocks{n:Nat}{b:List ag}(h:Seq n b):∃ D,BIn b 0 b.length D/\D.length<=b.length/\Runs b n D:=by
 induction h with
 | nil=>exact⟨[],.nil,Nat.le_refl _,λc pre post d op dn P _ _ _ _ _ h1 h2 k=>by simpa using k d h1 h2⟩
 | @one n i hf=>
  refine⟨[],.nil,Nat.zero_le _,λc pre post d op dn P hc hp hl hop hdn h1 h2 k=>?_⟩
  obtain⟨o1,o2,o3⟩:=hf.ops
  have pl:=ae3 hp
  have hcl:c.length=pre.length+1+post.length:=by rw[hc];simp <;> omega
  have hx:c[pre.length]?=some i:=by rw[hc,List.append_assoc];exact get_mid' pre i post rfl
  refine round (by omega) (by omega) (ael hx o1 o2 o3 (by omega)) ?_
  simpa using k d h1 h2
 | @app n a b _ _ iha ihb=>
  obtain⟨D1,b1,l1,r1⟩:=iha
  obtain⟨D2,b2,l2,r2⟩:=ihb
  refine⟨D1++D2.map (shift a.length),?_,by simp;omega,λc pre post d op dn P hc hp hl hop hdn h1 h2 k=>?_⟩
  ·have g1:=b1.shift [] b
   have g2:=b2.shift a []
   simp only[List.nil_append,List.length_nil,List.append_nil]at g1 g2
   have e1:D1.map (shift ((0:Nat):Int))=D1:=by rw[show shift ((0:Nat):Int)=id from funext aeo];simp
   rw[e1]at g1
   refine BIn.join (m:=a.length) (m':=a.length) ⟨λs hs=>?_,g1.two,g1.keys⟩ ⟨λs hs=>?_,g2.two,g2.keys⟩ (Int.le_refl _) (by omega) (by rw[List.length_append];omega)
   ·obtain⟨q1,q2,q3,q4⟩:=g1.one s hs;exact⟨by omega,q2,by omega,q4⟩
   ·obtain⟨q1,q2,q3,q4⟩:=g2.one s hs;exact⟨by omega,q2,by rw[List.length_append];omega,q4⟩
  ·rw[List.length_append]at hdn
   refine r1 c pre (b++post) d op dn P (by rw[hc];simp) (by simp[hp]) hl hop (by omega) h1 h2 (λd' g1 g2=>?_)
   have:=r2 c (pre++a) post d' op (dn++D1.map (shift pre.length)) P (by rw[hc];simp) hp hl hop (by simp;omega) g1 g2 (λd'' g3 g4=>?_)
   ·simpa using this
   ·have k':=k d'' g3 g4
    have e:(D2.map (shift a.length)).map (shift pre.length)=D2.map (shift (pre++a).length):=by
     rw[List.map_map]
     refine List.map_congr_left λs _=>?_
     simp only[Function.comp]
     rw[abJ _ _ (by omega)]
     congr 1
     simp;omega
    rw[List.map_append,e,<-List.append_assoc]at k'
    simpa[Nat.add_assoc]using k'
 | @blk n o a b ho ha1 ha2 _ ih=>
  obtain⟨D,b1,l1,r1⟩:=ih
  exact⟨_,amI o a b1,by simp;omega,aiU (by omega) l1 r1⟩
 | @ite n a b f ha1 ha2 _ _ ih1 ih2=>
  obtain⟨D1,b1,l1,r1⟩:=ih1
  obtain⟨D2,b2,l2,r2⟩:=ih2
  refine⟨D1.map (shift 1)++D2.map (shift ((b.length+2:Nat):Int))++[⟨0,(b.length:Int)+1,(b.length:Int)+f.length+2⟩],?_,by simp;omega,λc pre post d op dn P hc hp hl hop hdn h1 h2 k=>?_⟩
  ·have g1:=b1.shift [⟨4,a,0,0,[]⟩] (ELSE::(f++[END]))
   have g2:=b2.shift (⟨4,a,0,0,[]⟩::(b++[ELSE])) [END]
   have e1:(⟨4,a,0,0,[]⟩::(b++ELSE::(f++[END])):List ag)=[⟨4,a,0,0,[]⟩]++b++(ELSE::(f++[END])):=by simp
   have e2:(⟨4,a,0,0,[]⟩::(b++ELSE::(f++[END])):List ag)=(⟨4,a,0,0,[]⟩::(b++[ELSE]))++f++[END]:=by simp
   rw[<-e1]at g1
   rw[<-e2]at g2
   have ln:((⟨4,a,0,0,[]⟩:ag)::(b++[ELSE])).length=b.length+2:=by simp
   rw[ln]at g2
   simp only[List.length_cons,List.length_nil,Nat.zero_add]at g1
   have g:=g1.join g2 (by omega) (by omega) (by omega)
   refine BIn.wrap g (by dsimp only;omega) (by dsimp only;omega) (by dsimp only;omega) (by simp;omega) (by dsimp only;omega) ⟨END,?_,rfl⟩ (.inr ⟨by dsimp only;omega,by dsimp only;omega,_,rfl,rfl⟩) (λ_ t ht hlt=>?_)
   ·dsimp only
    rw[e2,show((b.length:Int)+f.length+2).toNat=b.length+f.length+2 by omega]
    exact get_mid' _ END [] (by simp <;> omega)
   ·dsimp only at hlt ⊢
    rcases List.mem_append.1 ht with ht | ht
    ·obtain⟨-,-,q,-⟩:=g1.one t ht;omega
    ·obtain⟨q,-⟩:=g2.one t ht;omega
  ·have pl:=ae3 hp
   simp only[List.length_cons,List.length_append,List.length_nil]at hdn
   have hcl:c.length=pre.length+(b.length+f.length+3)+post.length:=by rw[hc];simp <;> omega
   have hx:c[pre.length]?=some ⟨4,a,0,0,[]⟩:=by rw[hc,List.append_assoc];exact get_mid' pre _ _ rfl
   refine round (by omega) (by omega) (adU hx (by dsimp only;omega) (by omega) (by omega)) ?_
   obtain⟨m1,m2⟩:=aj0 (m:=(op.length:Int)+1) h1 h2 (by omega) (by omega)
   have hc2:c=(pre++[⟨4,a,0,0,[]⟩])++b++(ELSE::(f++END::post)):=by rw[hc];simp
   have hl2:(pre++[(⟨4,a,0,0,[]⟩:ag)]).length=pre.length+1:=by simp
   have:=r1 c (pre++[⟨4,a,0,0,[]⟩]) (ELSE::(f++END::post)) _ (op++[⟨pre.length,-1,-1⟩]) dn P hc2 (by simp) hl (by simp;omega) (by omega) m1 m2 (λd' g1 g2=>?_)
   ·simpa using this
   ·have hx2:c[pre.length+1+b.length]?=some ELSE:=by rw[hc2];exact get_mid' _ ELSE _ (by simp <;> omega)
    rw[hl2]
    refine round (i:=pre.length+1+b.length) (by omega) (by omega) (afS (y:=⟨4,a,0,0,[]⟩) hx2 rfl (by omega) (by rw[Int.toNat_natCast];exact hx) rfl (by omega) (by simp;omega)) ?_
    have hc3:c=(pre++⟨4,a,0,0,[]⟩::(b++[ELSE]))++f++(END::post):=by rw[hc];simp
    have hl3:(pre++(⟨4,a,0,0,[]⟩:ag)::(b++[ELSE])).length=pre.length+1+b.length+1:=by simp;omega
    have:=r2 c (pre++⟨4,a,0,0,[]⟩::(b++[ELSE])) (END::post) d' (op++[⟨pre.length,((pre.length+1+b.length:Nat):Int),-1⟩]) (dn++D1.map (shift ((pre.length+1:Nat):Int))) P hc3 (by simp) hl (by simp;omega) (by simp;omega) g1 g2 (λd'' g3 g4=>?_)
    ·rw[hl3]at this
     exact this
    ·have hx3:c[pre.length+1+b.length+1+f.length]?=some END:=by rw[hc3];exact get_mid' _ END post (by simp <;> omega)
     rw[hl3]
     refine round (i:=pre.length+1+b.length+1+f.length) (by omega) (by omega) (aeL (s:=⟨pre.length,((pre.length+1+b.length:Nat):Int),-1⟩) hx3 rfl (by omega) (by simp;omega) (by simp;omega)) ?_
     have k':=k d'' g3 g4
     have e1:(D1.map (shift 1)++D2.map (shift ((b.length+2:Nat):Int))++[⟨0,(b.length:Int)+1,(b.length:Int)+f.length+2⟩]:List Span).map (shift pre.length) =
       D1.map (shift ((pre.length+1:Nat):Int))++D2.map (shift ((pre.length+1+b.length+1:Nat):Int))++[⟨pre.length,((pre.length+1+b.length:Nat):Int),((pre.length+1+b.length+1+f.length:Nat):Int)⟩]:=by
      rw[List.map_append,List.map_append,List.map_map,List.map_map]
      congr 1
      ·congr 1
       ·refine List.map_congr_left λs _=>?_
        simp only[Function.comp]
        rw[abJ _ _ (by omega)]
        congr 1
        omega
       ·refine List.map_congr_left λs _=>?_
        simp only[Function.comp]
        rw[abJ _ _ (by omega)]
        congr 1
        omega
      ·simp only[List.map_cons,List.map_nil,shift]
       rw[if_neg (by omega)]
       congr 2 <;> omega
     rw[e1,<-List.append_assoc,<-List.append_assoc]at k'
     have e2:pre.length+((⟨4,a,0,0,[]⟩:ag)::(b++ELSE::(f++[END]))).length=pre.length+1+b.length+1+f.length+1:=by simp;omega
     rw[e2]at k'
     exact k'
theorem of_wp{b:List ag}{n:Nat}{D:List Span}(hD:BIn b 0 b.length D)(hl:D.length<=b.length)(hr:Runs b n D)(hn:n<=60)(hb:b.length<=90000):Wp (λk=>aN.f k (b++[END])) (· = (0,aaE kAt D)):=by
 refine .succ ?_
 simp only[aN.f]
 have cl:(b++[END]).length=b.length+1:=by simp
 refine .neg (by omega) ?_
 refine .alt (Q:=λo=>o.1<=60/\o.2.2=D) (Q2:=λ_=>False) ?_ (λo ho=>?_) (λo ho=>ho.elim)
 ·refine Lp.wp ?_
  have:=hr (b++[END]) [] [END] 0 [] [] (aaT (λo=>o.1<=60/\o.2.2=D) (λ_=>False)) (by simp) (by simp) (by omega) (by simpa using hn) (by simp;omega) (Int.le_refl _) (by decide) (λd' h1 h2=>?_)
  ·exact this
  ·have e:D.map (shift (([]:List ag).length:Int))=D:=by
    rw[show shift ((([]:List ag).length:Nat):Int)=id from funext aeo];simp
   rw[e,List.nil_append,List.length_nil,Nat.zero_add]
   have hx:(b++[END])[b.length]?=some END:=get_mid' b END [] rfl
   refine .step ?_
   simp only[aN.b5]
   refine .pos (by omega) (.bind (afu hx rfl (by omega)) (λr hr=>?_))
   subst hr
   dsimp only
   refine .neg (by rw[decide_eq_true (by omega)];decide) (.left ?_)
   refine .step ?_
   simp only[aN.b5]
   rw[aai (by omega) (by omega)]
   exact .neg (by omega) (.right (show aaT (λo:Int×List Span×List Span=>o.1<=60/\o.2.2=D) (λ_=>False) (.inl _)from⟨h2,rfl⟩))
 ·obtain⟨d,o1,dn⟩:=o
  obtain⟨h1,rfl⟩:=ho
  dsimp only at h1 ⊢
  refine .neg (by omega) (.bind (Q:=λ_=>True) ⟨(),trivial,1,λk hk=>?_⟩ (λ_ _=>.one rfl))
  obtain⟨k,rfl⟩:∃ j,k=j+1:=⟨k-1,by omega⟩
  simp only[ajv]
  have hl':dn.length<=b.length:=hl
  rw[if_pos ⟨hD.keys,by omega⟩]
end Go.R4.Mt
