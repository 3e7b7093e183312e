import Derived.Test.YtganajogkdinaaaGreatGPe
import Derived.Test.YtganajogkdinaaaGreatEvPl
import Derived.Test.YtganajogkdinaaaGreatEvInt
set_option linter.all false
namespace Go.R4.Mt
open Go.Proofs Go.Ev
set_option maxRecDepth 100000
abbrev Span:=ah
abbrev kAt:Span->Int:=λx=>(ah.t3 x).1
theorem kAt_eq(x:Span):kAt x=x.At:=rfl
theorem get_mid'{α:Type}(a:List α)(x:α)(r:List α){n:Nat}(h:n=a.length):(a++x::r)[n]?=some x:=by
 subst h;rw[List.getElem?_append_right (Nat.le_refl _),Nat.sub_self];rfl
variable{c:List ag}{i:Nat}{d:Int}{op dn:List Span}{x:ag}
theorem abg{o:Int}:Wp (λk=>bj.f k o) (λx=>x=decide (2<=o/\o<=4)):=by
 refine .succ ?_
 simp only[bj.f]
 refine .ite (λh=>.one ?_) (λh=>.one ?_)
 ·simp[show 2<=o from h]
 ·simp[show ¬2<=o from h]
theorem akP(hx:c[i]?=some x)(ho:2<=x.Op/\x.Op<=4)(hc:c.length<=1000000)(hop:op.length<=1000000) :
  Wp (λk=>aq.f k c (i:Int) d op dn) (· = (decide ((i:Int)<(c.length:Int)-1),imax d ((op.length:Int)+1),op++[⟨i,-1,-1⟩],dn)):=by
 refine .succ ?_
 simp only[aq.f]
 have hi:i<c.length:=(List.getElem?_eq_some_iff.1 hx).1
 refine .bind (Q:=(· = x)) ⟨x,rfl,0,λ_ _=>by rw[at?_nat];exact hx⟩ (λy hy=>?_)
 subst hy
 refine .seg (Q:=(· = (imax d ((op.length:Int)+1),op++[⟨i,-1,-1⟩],dn))) ?_ (λo ho=>?_)
 ·refine .bind abg (λb hb=>?_)
  subst hb
  refine .pos (by rw[decide_eq_true_eq];exact ho) (.pos (aae (by omega) (by omega)) (.left ?_))
  rw[aai (by omega) (by omega)]
 ·subst ho
  exact .one (by rw[aap (by omega) (by omega)])
theorem aiz(hx:c[i]?=some x)(ho:¬(2<=x.Op/\x.Op<=4))(h5:x.Op≠5)(h11:x.Op≠11)(hc:c.length<=1000000) :
  Wp (λk=>aq.f k c (i:Int) d op dn) (· = (decide ((i:Int)<(c.length:Int)-1),d,op,dn)):=by
 refine .succ ?_
 simp only[aq.f]
 have hi:i<c.length:=(List.getElem?_eq_some_iff.1 hx).1
 refine .bind (Q:=(· = x)) ⟨x,rfl,0,λ_ _=>by rw[at?_nat];exact hx⟩ (λy hy=>?_)
 subst hy
 refine .seg (Q:=(· = (d,op,dn))) ?_ (λo ho=>?_)
 ·refine .bind abg (λb hb=>?_)
  subst hb
  refine .neg (by rw[decide_eq_true_eq];exact ho) (.neg h5 ?_)
  refine .seg (Q:=(· = false)) (.neg h11 (.left rfl)) (λb hb=>?_)
  subst hb
  exact .neg (by decide) (.neg h11 (.left rfl))
 ·subst ho
  exact .one (by rw[aap (by omega) (by omega)])
theorem afi{s:Span}(hop:(op++[s]).length<=1000000):isub .i64 ((op++[s]).length:Int) 1=((op.length:Nat):Int):=by
 simp only[List.length_append,List.length_cons,List.length_nil]at hop ⊢
 rw[aap (by omega) (by omega)];omega
theorem aiK{a e:Int}{y:ag}(hx:c[i]?=some x)(ho:x.Op=5)(ha0:0<=a)(ha:c[a.toNat]?=some y)(hy:y.Op=4)(hc:c.length<=1000000)(hop:(op++[(⟨a,-1,e⟩:Span)]).length<=1000000) :
  Wp (λk=>aq.f k c (i:Int) d (op++[⟨a,-1,e⟩]) dn) (· = (decide ((i:Int)<(c.length:Int)-1),d,op++[⟨a,i,e⟩],dn)):=by
 refine .succ ?_
 simp only[aq.f]
 have hi:i<c.length:=(List.getElem?_eq_some_iff.1 hx).1
 refine .bind (Q:=(· = x)) ⟨x,rfl,0,λ_ _=>by rw[at?_nat];exact hx⟩ (λz hz=>?_)
 subst hz
 have hl:=afi (s:=(⟨a,-1,e⟩:Span)) hop
 have hl2:(op++[(⟨a,-1,e⟩:Span)]).length=op.length+1:=by simp
 have hg:(op++[(⟨a,-1,e⟩:Span)])[((op.length:Nat):Int).toNat]?=some ⟨a,-1,e⟩:=by rw[Int.toNat_natCast];exact get_mid' op _ [] rfl
 rw[hl]
 refine .seg (Q:=(· = (d,op++[⟨a,i,e⟩],dn))) ?_ (λo ho=>?_)
 ·refine .bind abg (λb hb=>?_)
  subst hb
  refine .neg (by rw[decide_eq_true_eq];omega) (.pos ho (.neg (by omega) (.pos ⟨by omega,by omega⟩ ?_)))
  refine .bind (Q:=(· = (⟨a,-1,e⟩:Span))) ⟨_,rfl,0,λ_ _=>hg⟩ (λz hz=>?_)
  subst hz
  refine .bind (Q:=(· = y)) ⟨y,rfl,0,λ_ _=>by simp only[at?,if_pos ha0];exact ha⟩ (λz hz=>?_)
  subst hz
  refine .pos hy (.pos ⟨by omega,by omega⟩ ?_)
  refine .bind (Q:=(· = (⟨a,-1,e⟩:Span))) ⟨_,rfl,0,λ_ _=>hg⟩ (λz hz=>?_)
  subst hz
  refine .pos rfl (.pos ⟨by omega,by omega⟩ ?_)
  refine .bind (Q:=(· = (⟨a,-1,e⟩:Span))) ⟨_,rfl,0,λ_ _=>hg⟩ (λz hz=>?_)
  subst hz
  refine .left ?_
  dsimp only
  rw[Int.toNat_natCast,List.set_append_right _ _ (Nat.le_refl _),Nat.sub_self]
  rfl
 ·subst ho
  exact .one (by rw[aap (by omega) (by omega)])
theorem amo{s:Span}(hx:c[i]?=some x)(ho:x.Op=11)(hc:c.length<=1000000)(hop:(op++[s]).length<=1000000)(hdn:dn.length<=1000000) :
  Wp (λk=>aq.f k c (i:Int) d (op++[s]) dn) (· = (decide ((i:Int)<(c.length:Int)-1),d,op,dn++[⟨s.At,s.Else,i⟩])):=by
 refine .succ ?_
 simp only[aq.f]
 have hi:i<c.length:=(List.getElem?_eq_some_iff.1 hx).1
 refine .bind (Q:=(· = x)) ⟨x,rfl,0,λ_ _=>by rw[at?_nat];exact hx⟩ (λz hz=>?_)
 subst hz
 have hl:=afi (s:=s) hop
 have hl2:(op++[s]).length=op.length+1:=by simp
 have hg:(op++[s])[((op.length:Nat):Int).toNat]?=some s:=by rw[Int.toNat_natCast];exact get_mid' op _ [] rfl
 rw[hl]
 refine .seg (Q:=(· = (d,op,dn++[⟨s.At,s.Else,i⟩]))) ?_ (λo ho=>?_)
 ·refine .bind abg (λb hb=>?_)
  subst hb
  refine .neg (by rw[decide_eq_true_eq];omega) (.neg (by omega) ?_)
  refine .seg (Q:=(· = true)) (.pos ho (.left (by rw[decide_eq_true_eq];omega))) (λb hb=>?_)
  subst hb
  refine .pos rfl (.pos ⟨by omega,by omega⟩ ?_)
  refine .bind (Q:=(· = s)) ⟨_,rfl,0,λ_ _=>hg⟩ (λz hz=>?_)
  subst hz
  refine .pos ⟨by omega,by omega,by omega⟩ (.pos (aae (by omega) (by omega)) (.pos (by omega) (.left ?_)))
  rw[Int.toNat_natCast,Nat.sub_zero,List.take_append_of_le_length (Nat.le_refl _),List.take_length]
 ·subst ho
  exact .one (by rw[aap (by omega) (by omega)])
theorem aiI(hx:c[i]?=some x)(ho:x.Op=11)(hc:c.length<=1000000) :
  Wp (λk=>aq.f k c (i:Int) d [] dn) (· = (decide ((i:Int)=(c.length:Int)-1),d,[],dn)):=by
 refine .succ ?_
 simp only[aq.f]
 have hi:i<c.length:=(List.getElem?_eq_some_iff.1 hx).1
 refine .bind (Q:=(· = x)) ⟨x,rfl,0,λ_ _=>by rw[at?_nat];exact hx⟩ (λz hz=>?_)
 subst hz
 refine .seg (Q:=λ_=>False) ?_ (λo ho=>ho.elim)
 refine .bind abg (λb hb=>?_)
 subst hb
 refine .neg (by rw[decide_eq_true_eq];omega) (.neg (by omega) ?_)
 refine .seg (Q:=(· = false)) (.pos ho (.left (by simp))) (λb hb=>?_)
 subst hb
 refine .neg (by decide) (.pos ho (.right ?_))
 rw[aap (by omega) (by omega)]
abbrev Rounds(c:List ag):Nat->(Int×Int×List Span×List Span)->Option ((Int×Int×List Span×List Span)⊕((Int×List Span×List Span)⊕(Int×List Span×List Span))):=λk=>bt.b5 k c
theorem round{P:(Int×List Span×List Span)⊕(Int×List Span×List Span)->Prop}{d':Int}{op' dn':List Span}(hi:i+1<c.length)(hc:c.length<=1000000)
  (hw:Wp (λk=>aq.f k c (i:Int) d op dn) (· = (decide ((i:Int)<(c.length:Int)-1),d',op',dn'))) (h:Lp (Rounds c) (((i+1:Nat):Int),d',op',dn') P):Lp (Rounds c) ((i:Int),d,op,dn) P:=by
 refine .step ?_
 simp only[bt.b5]
 refine .pos (by omega) (.bind hw (λr hr=>?_))
 subst hr
 dsimp only
 refine .neg ?_ (.left ?_)
 ·rw[decide_eq_true (by omega)];decide
 ·rw[aai (by omega) (by omega)]
  exact h
theorem aic(hx:c[i]?=some x)(ho:x.Op=5):Wp (λk=>aq.f k c (i:Int) d [] dn) (· = (false,d,[],dn)):=by
 refine .succ ?_
 simp only[aq.f]
 refine .bind (Q:=(· = x)) ⟨x,rfl,0,λ_ _=>by rw[at?_nat];exact hx⟩ (λz hz=>?_)
 subst hz
 refine .seg (Q:=λ_=>False) ?_ (λo ho=>ho.elim)
 refine .bind abg (λb hb=>?_)
 subst hb
 exact .neg (by rw[decide_eq_true_eq];omega) (.pos ho (.pos rfl (.right rfl)))
theorem aik{s:Span}{y:ag}(hx:c[i]?=some x)(ho:x.Op=5)(ha0:0<=s.At)(ha:c[s.At.toNat]?=some y)(hy:y.Op≠4∨s.Else ≠ -1)(hop:(op++[s]).length<=1000000):Wp (λk=>aq.f k c (i:Int) d (op++[s]) dn) (· = (false,d,op++[s],dn)):=by
 refine .succ ?_
 simp only[aq.f]
 refine .bind (Q:=(· = x)) ⟨x,rfl,0,λ_ _=>by rw[at?_nat];exact hx⟩ (λz hz=>?_)
 subst hz
 have hl:=afi (s:=s) hop
 have hl2:(op++[s]).length=op.length+1:=by simp
 have hg:(op++[s])[((op.length:Nat):Int).toNat]?=some s:=by rw[Int.toNat_natCast];exact get_mid' op _ [] rfl
 rw[hl]
 refine .seg (Q:=λ_=>False) ?_ (λo ho=>ho.elim)
 refine .bind abg (λb hb=>?_)
 subst hb
 refine .neg (by rw[decide_eq_true_eq];omega) (.pos ho (.neg (by omega) (.pos ⟨by omega,by omega⟩ ?_)))
 refine .bind (Q:=(· = s)) ⟨_,rfl,0,λ_ _=>hg⟩ (λz hz=>?_)
 subst hz
 refine .bind (Q:=(· = y)) ⟨y,rfl,0,λ_ _=>by simp only[at?,if_pos ha0];exact ha⟩ (λw hw=>?_)
 subst hw
 refine .ite (λh4=>.pos ⟨by omega,by omega⟩ ?_) (λ_=>.right rfl)
 refine .bind (Q:=(· = z)) ⟨_,rfl,0,λ_ _=>hg⟩ (λv hv=>?_)
 subst hv
 exact .neg (by omega) (.right rfl)
abbrev RS:=ab
abbrev RR(c:List ag):Nat->(Bool×Int×List RS×List Int)->Option ((Bool×Int×List RS×List Int)⊕(Unit⊕(Int×List RS))):=λk=>bE.b5 k c
variable{deep:Bool}{out:List RS}{st:List Int}
theorem abz{o:Int}:Wp (λk=>aX.f k o) (λx=>x=decide (2<=o/\o<=4)):=by
 refine .succ ?_
 simp only[aX.f]
 refine .ite (λh=>.one ?_) (λh=>.one ?_)
 ·simp[show 2<=o from h]
 ·simp[show ¬2<=o from h]
theorem alW(hx:c[i]?=some x)(ho:2<=x.Op/\x.Op<=4)(hc:c.length<=1000000)(hs:st.length<=1000000)(hq:out.length<=1000000) :
  Wp (λk=>RR c k (deep,(i:Int),out,st)) (· = .inl (deep||decide (st.length+1>64),((i+1:Nat):Int),out++[⟨i,-1,-1⟩],st++[(out.length:Int)])):=by
 have hi:i<c.length:=(List.getElem?_eq_some_iff.1 hx).1
 simp only[RR,bE.b5]
 refine .pos (by omega) (.seg (Q:=(· = (deep||decide (st.length+1>64),out++[⟨i,-1,-1⟩],st++[(out.length:Int)]))) ?_ (λo ho=>?_))
 ·refine .bind (Q:=(· = x)) ⟨x,rfl,0,λ_ _=>by rw[at?_nat];exact hx⟩ (λy hy=>?_)
  subst hy
  refine .bind abz (λb hb=>?_)
  subst hb
  refine .pos (by rw[decide_eq_true_eq];exact ho) (.pos (aae (by omega) (by omega)) (.pos (aae (by omega) (by omega)) (.ite (λh=>.left ?_) (λh=>.left ?_))))
  ·rw[h];simp
  ·cases deep
   ·simp only[Bool.false_or,List.length_append,List.length_cons,List.length_nil]
    congr 2
    simp only[gt_iff_lt,eq_iff_iff]
    omega
   ·exact absurd rfl h
 ·subst ho
  exact .one (by rw[aai (by omega) (by omega)];rfl)
theorem aiM(hx:c[i]?=some x)(ho:¬(2<=x.Op/\x.Op<=4))(h5:x.Op≠5)(h11:x.Op≠11)(hc:c.length<=1000000):Wp (λk=>RR c k (deep,(i:Int),out,st)) (· = .inl (deep,((i+1:Nat):Int),out,st)):=by
 have hi:i<c.length:=(List.getElem?_eq_some_iff.1 hx).1
 simp only[RR,bE.b5]
 refine .pos (by omega) (.seg (Q:=(· = (deep,out,st))) ?_ (λo ho=>?_))
 ·refine .bind (Q:=(· = x)) ⟨x,rfl,0,λ_ _=>by rw[at?_nat];exact hx⟩ (λy hy=>?_)
  subst hy
  refine .bind abz (λb hb=>?_)
  subst hb
  refine .neg (by rw[decide_eq_true_eq];exact ho) (.neg h5 ?_)
  refine .seg (Q:=(· = false)) (.neg h11 (.left rfl)) (λb hb=>?_)
  subst hb
  exact .neg (by decide) (.neg h11 (.left rfl))
 ·subst ho
  exact .one (by rw[aai (by omega) (by omega)];rfl)
theorem ag4{e:Int}(h:(st++[e]).length<=1000000):isub .i64 ((st++[e]).length:Int) 1=((st.length:Nat):Int):=by
 simp only[List.length_append,List.length_cons,List.length_nil]at h ⊢
 rw[aap (by omega) (by omega)];omega
theorem akA(hx:c[i]?=some x)(ho:x.Op=5):Wp (λk=>RR c k (deep,(i:Int),out,[])) (· = .inr (.inr (12,[]))):=by
 have hi:i<c.length:=(List.getElem?_eq_some_iff.1 hx).1
 simp only[RR,bE.b5]
 refine .pos (by omega) (.seg (Q:=λ_=>False) ?_ (λo ho=>ho.elim))
 refine .bind (Q:=(· = x)) ⟨x,rfl,0,λ_ _=>by rw[at?_nat];exact hx⟩ (λy hy=>?_)
 subst hy
 refine .bind abz (λb hb=>?_)
 subst hb
 exact .neg (by rw[decide_eq_true_eq];omega) (.pos ho (.pos rfl (.right rfl)))
theorem ajX{e:Nat}{s:RS}{y:ag}(hx:c[i]?=some x)(ho:x.Op=5)(he:out[e]?=some s)(ha0:0<=s.At)(ha:c[s.At.toNat]?=some y)(hy:y.Op≠4∨0<=s.Else)(hs:(st++[(e:Int)]).length<=1000000) :
  Wp (λk=>RR c k (deep,(i:Int),out,st++[(e:Int)])) (· = .inr (.inr (12,[]))):=by
 have hi:i<c.length:=(List.getElem?_eq_some_iff.1 hx).1
 have hel:e<out.length:=(List.getElem?_eq_some_iff.1 he).1
 have hl:=ag4 hs
 have hl2:(st++[(e:Int)]).length=st.length+1:=by simp
 have hg:(st++[(e:Int)])[((st.length:Nat):Int).toNat]?=some (e:Int):=by rw[Int.toNat_natCast];exact get_mid' st _ [] rfl
 simp only[RR,bE.b5]
 rw[hl]
 refine .pos (by omega) (.seg (Q:=λ_=>False) ?_ (λo ho=>ho.elim))
 refine .bind (Q:=(· = x)) ⟨x,rfl,0,λ_ _=>by rw[at?_nat];exact hx⟩ (λz hz=>?_)
 subst hz
 refine .bind abz (λb hb=>?_)
 subst hb
 refine .neg (by rw[decide_eq_true_eq];omega) (.pos ho (.neg (by omega) (.pos ⟨by omega,by omega⟩ ?_)))
 refine .bind (Q:=(· = (e:Int))) ⟨_,rfl,0,λ_ _=>hg⟩ (λz hz=>?_)
 subst hz
 have gw:Wp (λ_=>out[((e:Nat):Int).toNat]?) (· = s):=⟨s,rfl,0,λ_ _=>by rw[Int.toNat_natCast];exact he⟩
 refine .pos ⟨by omega,by omega⟩ (.bind gw (λz hz=>?_))
 subst hz
 refine .bind (Q:=(· = y)) ⟨y,rfl,0,λ_ _=>by simp only[at?,if_pos ha0];exact ha⟩ (λw hw=>?_)
 subst hw
 refine .ite (λh4=>.pos ⟨by omega,by omega⟩ (.bind gw (λv hv=>?_))) (λ_=>.right rfl)
 subst hv
 exact .pos (by omega) (.right rfl)
theorem alA{e:Nat}{s:RS}{y:ag}(hx:c[i]?=some x)(ho:x.Op=5)(he:out[e]?=some s)(ha0:0<=s.At)(ha:c[s.At.toNat]?=some y)(hy:y.Op=4)(hn:s.Else<0)(hs:(st++[(e:Int)]).length<=1000000)(hc:c.length<=1000000) :
  Wp (λk=>RR c k (deep,(i:Int),out,st++[(e:Int)])) (· = .inl (deep,((i+1:Nat):Int),out.set e ⟨s.At,i,s.End⟩,st++[(e:Int)])):=by
 have hi:i<c.length:=(List.getElem?_eq_some_iff.1 hx).1
 have hel:e<out.length:=(List.getElem?_eq_some_iff.1 he).1
 have hl:=ag4 hs
 have hl2:(st++[(e:Int)]).length=st.length+1:=by simp
 have hg:(st++[(e:Int)])[((st.length:Nat):Int).toNat]?=some (e:Int):=by rw[Int.toNat_natCast];exact get_mid' st _ [] rfl
 simp only[RR,bE.b5]
 rw[hl]
 refine .pos (by omega) (.seg (Q:=(· = (deep,out.set e ⟨s.At,i,s.End⟩,st++[(e:Int)]))) ?_ (λo ho=>?_))
 ·refine .bind (Q:=(· = x)) ⟨x,rfl,0,λ_ _=>by rw[at?_nat];exact hx⟩ (λz hz=>?_)
  subst hz
  refine .bind abz (λb hb=>?_)
  subst hb
  refine .neg (by rw[decide_eq_true_eq];omega) (.pos ho (.neg (by omega) (.pos ⟨by omega,by omega⟩ ?_)))
  refine .bind (Q:=(· = (e:Int))) ⟨_,rfl,0,λ_ _=>hg⟩ (λz hz=>?_)
  subst hz
  have gw:Wp (λ_=>out[((e:Nat):Int).toNat]?) (· = s):=⟨s,rfl,0,λ_ _=>by rw[Int.toNat_natCast];exact he⟩
  refine .pos ⟨by omega,by omega⟩ (.bind gw (λz hz=>?_))
  subst hz
  refine .bind (Q:=(· = y)) ⟨y,rfl,0,λ_ _=>by simp only[at?,if_pos ha0];exact ha⟩ (λw hw=>?_)
  subst hw
  refine .pos hy (.pos ⟨by omega,by omega⟩ (.bind gw (λv hv=>?_)))
  subst hv
  refine .neg (by omega) (.pos ⟨by omega,by omega⟩ (.bind gw (λu hu=>.left ?_)))
  subst hu
  rw[Int.toNat_natCast]
 ·subst ho
  exact .one (by rw[aai (by omega) (by omega)];rfl)
theorem an2{e:Nat}{s:RS}(hx:c[i]?=some x)(ho:x.Op=11)(he:out[e]?=some s)(hs:(st++[(e:Int)]).length<=1000000)(hc:c.length<=1000000) :
  Wp (λk=>RR c k (deep,(i:Int),out,st++[(e:Int)])) (· = .inl (deep,((i+1:Nat):Int),out.set e ⟨s.At,s.Else,i⟩,st)):=by
 have hi:i<c.length:=(List.getElem?_eq_some_iff.1 hx).1
 have hel:e<out.length:=(List.getElem?_eq_some_iff.1 he).1
 have hl:=ag4 hs
 have hl2:(st++[(e:Int)]).length=st.length+1:=by simp
 have hg:(st++[(e:Int)])[((st.length:Nat):Int).toNat]?=some (e:Int):=by rw[Int.toNat_natCast];exact get_mid' st _ [] rfl
 simp only[RR,bE.b5]
 rw[hl]
 refine .pos (by omega) (.seg (Q:=(· = (deep,out.set e ⟨s.At,s.Else,i⟩,st))) ?_ (λo ho=>?_))
 ·refine .bind (Q:=(· = x)) ⟨x,rfl,0,λ_ _=>by rw[at?_nat];exact hx⟩ (λz hz=>?_)
  subst hz
  refine .bind abz (λb hb=>?_)
  subst hb
  refine .neg (by rw[decide_eq_true_eq];omega) (.neg (by omega) ?_)
  refine .seg (Q:=(· = false)) (.pos ho (.left (by rw[decide_eq_false_iff_not];omega))) (λb hb=>?_)
  subst hb
  refine .neg (by decide) (.pos ho (.pos ⟨by omega,by omega⟩ ?_))
  refine .bind (Q:=(· = (e:Int))) ⟨_,rfl,0,λ_ _=>hg⟩ (λz hz=>?_)
  subst hz
  refine .pos ⟨by omega,by omega⟩ (.bind (Q:=(· = s)) ⟨s,rfl,0,λ_ _=>by rw[Int.toNat_natCast];exact he⟩ (λz hz=>?_))
  subst hz
  refine .pos ⟨by omega,by omega,by omega⟩ (.pos (by omega) (.left ?_))
  rw[Int.toNat_natCast,Int.toNat_natCast,Nat.sub_zero,List.take_append_of_le_length (Nat.le_refl _),List.take_length]
 ·subst ho
  exact .one (by rw[aai (by omega) (by omega)];rfl)
theorem al4(hx:c[i]?=some x)(ho:x.Op=11)(hc:c.length<=1000000) :
  Wp (λk=>RR c k (deep,(i:Int),out,[])) (· = .inr (.inr (if i+1=c.length then(if deep=true then(26,[])else(0,out))else(12,[])))):=by
 have hi:i<c.length:=(List.getElem?_eq_some_iff.1 hx).1
 simp only[RR,bE.b5]
 refine .pos (by omega) (.seg (Q:=λ_=>False) ?_ (λo ho=>ho.elim))
 refine .bind (Q:=(· = x)) ⟨x,rfl,0,λ_ _=>by rw[at?_nat];exact hx⟩ (λy hy=>?_)
 subst hy
 refine .bind abz (λb hb=>?_)
 subst hb
 refine .neg (by rw[decide_eq_true_eq];omega) (.neg (by omega) ?_)
 refine .seg (Q:=(· = true)) (.pos ho (.left (by simp))) (λb hb=>?_)
 subst hb
 rw[aap (by omega) (by omega)]
 refine .pos rfl (.ite (λh=>.ite (λhd=>.right ?_) (λhd=>.right ?_)) (λh=>.right ?_))
 ·rw[if_pos (by omega),if_pos hd]
 ·rw[if_pos (by omega),if_neg hd]
 ·rw[if_neg (by omega)]
theorem akx(h:c.length<=i):Wp (λk=>RR c k (deep,(i:Int),out,st)) (· = .inr (.inl ())):=by
 simp only[RR,bE.b5]
 exact .neg (by omega) (.one rfl)
end Go.R4.Mt
namespace Go.R4.Mt
open Go.Proofs Go.Ev
set_option maxRecDepth 100000
def conv(s:Span):RS:=⟨s.At,s.Else,s.End⟩
inductive Stk(out:List RS):List Span->List Int->Prop
 | nil:Stk out [] []
 | snoc {op:List Span}{st:List Int}{s:Span}{e:Nat}:Stk out op st->out[e]?=some (conv s)->(∀ x∈st,x<(e:Int))->Stk out (op++[s]) (st++[(e:Int)])
theorem Stk.len{out:List RS}{op:List Span}{st:List Int}(h:Stk out op st):op.length=st.length:=by
 induction h with
 | nil=>rfl
 | snoc _ _ _ ih=>simp[ih]
theorem Stk.mono{out out':List RS}{op:List Span}{st:List Int}(h:Stk out op st)(hm:∀ (j:Nat) (s:RS),(j:Int)∈st->out[j]?=some s->out'[j]?=some s):Stk out' op st:=by
 induction h with
 | nil=>exact .nil
 | @snoc op st s e _ he hlt ih=>
  exact .snoc (ih λj s hj hs=>hm j s (List.mem_append_left _ hj) hs) (hm e _ (by simp) he) hlt
theorem Stk.lt{out:List RS}{op:List Span}{st:List Int}(h:Stk out op st):∀ x∈st,x<(out.length:Int):=by
 induction h with
 | nil=>intro x hx;cases hx
 | @snoc op st s e _ he hlt ih=>
  intro x hx
  rcases List.mem_append.1 hx with hx | hx
  ·exact ih x hx
  ·rw[List.mem_singleton]at hx
   have:=(List.getElem?_eq_some_iff.1 he).1
   omega
theorem Stk.inv{out:List RS}{op:List Span}{st:List Int}(h:Stk out op st):(op=[]/\st=[]) ∨ ∃ op' s st' e,op=op'++[s]/\st=st'++[((e:Nat):Int)]/\Stk out op' st'/\out[e]?=some (conv s)/\∀ x∈st',x<(e:Int):=by
 cases h with
 | nil=>exact .inl ⟨rfl,rfl⟩
 | snoc a b c=>exact .inr ⟨_,_,_,_,rfl,rfl,a,b,c⟩
structure Rel(i:Nat)(d:Int)(op dn:List Span)(deep:Bool)(out:List RS)(st:List Int):Prop where
 deep:deep=decide (d>64)
 d0:0<=d/\d<=i
 stk:Stk out op st
 perm:((op++dn).map conv).Perm out
 keys:(out.map (·.At)).Pairwise (· < ·)
 bnd:∀ s∈out,0<=s.At/\s.At<i
 els:∀ s∈out,s.Else = -1∨0<=s.Else
 len:out.length<=i
theorem af4{α:Type}{l:List α}{e:Nat}{a:α}(b:α)(h:l[e]?=some a):∃ X Y,l=X++a::Y/\l.set e b=X++b::Y:=by
 obtain⟨hlt,rfl⟩:=List.getElem?_eq_some_iff.1 h
 refine⟨l.take e,l.drop (e+1),by simp,?_⟩
 rw[List.set_eq_take_append_cons_drop,if_pos hlt]
theorem ahc{α:Type}{A B l:List α}{e:Nat}{a:α}(b:α)(h:(A++a::B).Perm l)(he:l[e]?=some a):(A++b::B).Perm (l.set e b):=by
 obtain⟨X,Y,e1,e2⟩:=af4 b he
 rw[e2]
 rw[e1]at h
 have h1:(a::(A++B)).Perm (a::(X++Y)):=(List.perm_middle.symm.trans h).trans List.perm_middle
 have h2:=h1.cons_inv
 exact(List.perm_middle.trans (h2.cons b)).trans List.perm_middle.symm
theorem ahj{l:List RS}{e:Nat}{a b:RS}(he:l[e]?=some a)(hab:b.At=a.At):(l.set e b).map (·.At)=l.map (·.At):=by
 obtain⟨X,Y,e1,e2⟩:=af4 b he
 rw[e2,e1]
 simp[hab]
theorem aot{d m:Int}{n:Int}(h1:0<=d)(h2:d<=n)(h3:m<=n+1)(h4:0<=m):0<=imax d m/\imax d m<=n+1:=by
 unfold imax;split <;> omega
variable{c:List ag}{i:Nat}{d:Int}{op dn:List Span}{deep:Bool}{out:List RS}{st:List Int}
theorem Rel.lens(h:Rel i d op dn deep out st):op.length+dn.length=out.length/\op.length=st.length:=by
 have:=h.perm.length_eq
 simp at this
 exact⟨this,h.stk.len⟩
theorem Rel.push(h:Rel i d op dn deep out st):Rel (i+1) (imax d ((op.length:Int)+1)) (op++[⟨i,-1,-1⟩]) dn (deep||decide (st.length+1>64)) (out++[⟨i,-1,-1⟩]) (st++[(out.length:Int)]):=by
 obtain⟨l1,l2⟩:=h.lens
 have hl:=h.len
 obtain⟨d1,d2⟩:=h.d0
 obtain⟨m1,m2⟩:=aot (d:=d) (m:=(op.length:Int)+1) (n:=i) d1 d2 (by omega) (by omega)
 refine⟨?_,⟨m1,by omega⟩,?_,?_,?_,λs hs=>?_,λs hs=>?_,by simp;omega⟩
 ·rw[h.deep]
  unfold imax
  by_cases h1:d>64 <;> by_cases h2:st.length+1>64 <;> simp only[h1,h2,decide_true,decide_false,Bool.or_true,Bool.or_false,Bool.true_or] <;> split <;> simp <;> omega
 ·refine .snoc (h.stk.mono λj s _ hs=>?_) ?_ h.stk.lt
  ·rw[List.getElem?_append_left (List.getElem?_eq_some_iff.1 hs).1];exact hs
  ·exact get_mid' out _ [] rfl
 ·have:=h.perm
  rw[List.map_append,List.map_append]at *
  have p:(op.map conv++[conv ⟨i,-1,-1⟩]++dn.map conv).Perm (op.map conv++dn.map conv++[conv ⟨i,-1,-1⟩]):=by
   rw[List.append_assoc,List.append_assoc]
   exact(List.perm_append_comm).append_left _
  exact p.trans (this.append_right _)
 ·rw[List.map_append,List.pairwise_append]
  refine⟨h.keys,by simp,λa ha b hb=>?_⟩
  obtain⟨s,hs,rfl⟩:=List.mem_map.1 ha
  simp only[List.map_cons,List.map_nil,List.mem_singleton]at hb
  subst hb
  exact(h.bnd s hs).2
 ·rcases List.mem_append.1 hs with hs | hs
  ·obtain⟨a,b⟩:=h.bnd s hs;exact⟨a,by omega⟩
  ·rw[List.mem_singleton]at hs;subst hs;dsimp only;omega
 ·rcases List.mem_append.1 hs with hs | hs
  ·exact h.els s hs
  ·rw[List.mem_singleton]at hs;subst hs;exact .inl rfl
theorem Rel.next(h:Rel i d op dn deep out st):Rel (i+1) d op dn deep out st:=by
 obtain⟨d1,d2⟩:=h.d0
 have hl:=h.len
 exact⟨h.deep,⟨d1,by omega⟩,h.stk,h.perm,h.keys,λs hs=>by obtain⟨a,b⟩:=h.bnd s hs;exact⟨a,by omega⟩,h.els,by omega⟩
theorem Rel.elsed{s:Span}{e:Nat}(h:Rel i d (op++[s]) dn deep out (st++[(e:Int)]))(hk:Stk out op st)(he:out[e]?=some (conv s))(hlt:∀ x∈st,x<(e:Int)) :
  Rel (i+1) d (op++[⟨s.At,i,s.End⟩]) dn deep (out.set e ⟨s.At,i,s.End⟩) (st++[(e:Int)]):=by
 obtain⟨d1,d2⟩:=h.d0
 have hl:=h.len
 have hel:e<out.length:=(List.getElem?_eq_some_iff.1 he).1
 have sm:=h.bnd _ (List.mem_of_getElem? he)
 refine⟨h.deep,⟨d1,by omega⟩,.snoc (hk.mono λj x hj hx=>?_) ?_ hlt,?_,?_,λx hx=>?_,λx hx=>?_,by simp;omega⟩
 ·have:=hlt _ hj
  rw[List.getElem?_set_ne (by omega)];exact hx
 ·rw[List.getElem?_set_self hel];rfl
 ·have:=h.perm
  simp only[List.map_append,List.map_cons,List.map_nil,List.append_assoc,List.singleton_append]at this ⊢
  exact ahc _ this he
 ·have:=ahj (b:=⟨s.At,i,s.End⟩) he rfl
  rw[this];exact h.keys
 ·rcases List.mem_or_eq_of_mem_set hx with hx | rfl
  ·obtain⟨a,b⟩:=h.bnd x hx;exact⟨a,by omega⟩
  ·simp only[conv]at sm ⊢;omega
 ·rcases List.mem_or_eq_of_mem_set hx with hx | rfl
  ·exact h.els x hx
  ·right;dsimp only;omega
theorem Rel.ended{s:Span}{e:Nat}(h:Rel i d (op++[s]) dn deep out (st++[(e:Int)]))(hk:Stk out op st)(he:out[e]?=some (conv s))(hlt:∀ x∈st,x<(e:Int)) :
  Rel (i+1) d op (dn++[⟨s.At,s.Else,i⟩]) deep (out.set e ⟨s.At,s.Else,i⟩) st:=by
 obtain⟨d1,d2⟩:=h.d0
 have hl:=h.len
 have hel:e<out.length:=(List.getElem?_eq_some_iff.1 he).1
 have sm:=h.bnd _ (List.mem_of_getElem? he)
 have se:=h.els _ (List.mem_of_getElem? he)
 refine⟨h.deep,⟨d1,by omega⟩,hk.mono λj x hj hx=>?_,?_,?_,λx hx=>?_,λx hx=>?_,by simp;omega⟩
 ·have:=hlt _ hj
  rw[List.getElem?_set_ne (by omega)];exact hx
 ·have:=h.perm
  simp only[List.map_append,List.map_cons,List.map_nil,List.append_assoc,List.singleton_append]at this ⊢
  have p:=ahc (conv ⟨s.At,s.Else,i⟩) this he
  refine .trans ?_ p
  refine .append_left _ ?_
  exact List.perm_append_comm
 ·have:=ahj (b:=⟨s.At,s.Else,i⟩) he rfl
  rw[this];exact h.keys
 ·rcases List.mem_or_eq_of_mem_set hx with hx | rfl
  ·obtain⟨a,b⟩:=h.bnd x hx;exact⟨a,by omega⟩
  ·simp only[conv]at sm ⊢;omega
 ·rcases List.mem_or_eq_of_mem_set hx with hx | rfl
  ·exact h.els x hx
  ·exact se
abbrev RKey:RS->Int:=(·.At)
theorem aiE(l:List Span):aaL RKey (l.map conv)=(aaL kAt l).map conv:=aed kAt RKey conv (λ_=>rfl) l
def Both(c:List ag)(i:Nat)(d:Int)(op dn:List Span)(deep:Bool)(out:List RS)(st:List Int):Prop:=
 (∃ r,Lp (Rounds c) ((i:Int),d,op,dn) (· = .inr r)/\Lp (RR c) (deep,(i:Int),out,st) (λr=>r = .inl ()∨r = .inr (12,[]))) ∨
 ∃ d' op' dn',Lp (Rounds c) ((i:Int),d,op,dn) (· = .inl (d',op',dn'))/\Lp (RR c) (deep,(i:Int),out,st) (· = .inr (if d'>64 then(26,[])else(0,(aaL kAt dn').map conv)))/\(dn'.map kAt).Nodup/\dn'.length<=1000000
theorem _root_.Go.Ev.Lp.pass{V O:Type}{b:Nat->V->Option (V⊕O)}{v v':V}{P:O->Prop}(h:Wp (λk=>b k v) (· = .inl v'))(h2:Lp b v' P):Lp b v P:=
 .step (h.mono λa ha=>by subst ha;exact h2)
theorem _root_.Go.Ev.Lp.stop{V O:Type}{b:Nat->V->Option (V⊕O)}{v:V}{o:O}{P:O->Prop}(h:Wp (λk=>b k v) (· = .inr o))(h2:P o):Lp b v P:=
 .step (h.mono λa ha=>by subst ha;exact h2)
theorem aoe{d':Int}{op' dn':List Span}(hi:i+1<c.length)(hc:c.length<=1000000)(hw:Wp (λk=>aq.f k c (i:Int) d op dn) (· = (decide ((i:Int)<(c.length:Int)-1),d',op',dn'))) :
  Wp (λk=>Rounds c k ((i:Int),d,op,dn)) (· = .inl (((i+1:Nat):Int),d',op',dn')):=by
 simp only[Rounds,bt.b5]
 refine .pos (by omega) (.bind hw (λr hr=>?_))
 subst hr
 dsimp only
 refine .neg (by rw[decide_eq_true (by omega)];decide) (.one ?_)
 rw[aai (by omega) (by omega)];rfl
theorem ah3{d':Int}{op' dn':List Span}(hi:i<c.length)(hw:Wp (λk=>aq.f k c (i:Int) d op dn) (· = (false,d',op',dn'))) :
  Wp (λk=>Rounds c k ((i:Int),d,op,dn)) (· = .inr (.inr (d',op',dn'))):=by
 simp only[Rounds,bt.b5]
 refine .pos (by omega) (.bind hw (λr hr=>?_))
 subst hr
 dsimp only
 exact .pos rfl (.one rfl)
theorem aoZ{d':Int}{op' dn':List Span}(hi:i<c.length)(hc:c.length<=1000000)(hw:Wp (λk=>aq.f k c (i:Int) d op dn) (· = (true,d',op',dn'))) :
  Wp (λk=>Rounds c k ((i:Int),d,op,dn)) (· = .inl (((i+1:Nat):Int),d',op',dn')):=by
 simp only[Rounds,bt.b5]
 refine .pos (by omega) (.bind hw (λr hr=>?_))
 subst hr
 dsimp only
 refine .neg (by decide) (.one ?_)
 rw[aai (by omega) (by omega)];rfl
theorem apx(h:c.length<=i):Wp (λk=>Rounds c k ((i:Int),d,op,dn)) (· = .inr (.inl (d,op,dn))):=by
 simp only[Rounds,bt.b5]
 exact .neg (by omega) (.one rfl)
theorem ae8{d':Int}{op' dn':List Span}{deep':Bool}{out':List RS}{st':List Int}(hi:i<c.length)(hc:c.length<=1000000)
  (hm:Wp (λk=>aq.f k c (i:Int) d op dn) (· = (decide ((i:Int)<(c.length:Int)-1),d',op',dn')))
  (hr:Wp (λk=>RR c k (deep,(i:Int),out,st)) (· = .inl (deep',((i+1:Nat):Int),out',st')))
  (hn:i+1<c.length->Both c (i+1) d' op' dn' deep' out' st'):Both c i d op dn deep out st:=by
 by_cases h:i+1<c.length
 ·have hm':=aoe h hc hm
  rcases hn h with⟨r,h1,h2⟩ | ⟨a,b,e,h1,h2,h3,h4⟩
  ·exact .inl ⟨r,.pass hm' h1,.pass hr h2⟩
  ·exact .inr ⟨a,b,e,.pass hm' h1,.pass hr h2,h3,h4⟩
 ·rw[decide_eq_false (by omega)]at hm
  exact .inl ⟨_,.stop (ah3 hi hm) rfl,.pass hr (.stop (akx (by omega)) (.inl rfl))⟩
theorem both(hc:c.length<=100000):∀ (n i:Nat) (d:Int) (op dn:List Span) (deep:Bool) (out:List RS) (st:List Int),i+n=c.length->0<n->Rel i d op dn deep out st->Both c i d op dn deep out st
 | 0,_,_,_,_,_,_,_,_,h,_=>absurd h (by decide)
 | n+1,i,d,op,dn,deep,out,st,hn,_,h=>by
  have hi:i<c.length:=by omega
  have hx:c[i]?=some c[i]:=List.getElem?_eq_getElem hi
  obtain⟨l1,l2⟩:=h.lens
  have hl:=h.len
  have ih:∀ (d':Int) (op' dn':List Span) (deep':Bool) (out':List RS) (st':List Int),Rel (i+1) d' op' dn' deep' out' st'->i+1<c.length->Both c (i+1) d' op' dn' deep' out' st':=
   λd' op' dn' deep' out' st' hR hlt=>both hc n (i+1) d' op' dn' deep' out' st' (by omega) (by omega) hR
  generalize c[i]=x at hx
  by_cases ho:2<=x.Op/\x.Op<=4
  ·exact ae8 hi (by omega) (akP hx ho (by omega) (by omega)) (alW hx ho (by omega) (by omega) (by omega)) (ih _ _ _ _ _ _ h.push)
  ·by_cases h5:x.Op=5
   ·rcases h.stk.inv with⟨rfl,rfl⟩ | ⟨op',s,st',e,rfl,rfl,hk,he,hlt⟩
    ·exact .inl ⟨_,.stop (ah3 hi (aic hx h5)) rfl,.stop (akA hx h5) (.inr rfl)⟩
    ·have sm:=h.bnd _ (List.mem_of_getElem? he)
     have se:=h.els _ (List.mem_of_getElem? he)
     simp only[conv]at sm se
     have hy:c[s.At.toNat]?=some c[s.At.toNat]:=List.getElem?_eq_getElem (by omega)
     generalize c[s.At.toNat]=y at hy
     simp only[List.length_append,List.length_cons,List.length_nil]at l1 l2
     by_cases h4:y.Op=4/\s.Else = -1
     ·obtain⟨h4,hs⟩:=h4
      have hm:=aiK (c:=c) (i:=i) (d:=d) (op:=op') (dn:=dn) (a:=s.At) (e:=s.End) hx h5 sm.1 hy h4 (by omega) (by simp;omega)
      have es:s=⟨s.At,-1,s.End⟩:=by obtain⟨a,b,c⟩:=s;simp only at hs;subst hs;rfl
      rw[<-es]at hm
      exact ae8 hi (by omega) hm (alA hx h5 he sm.1 hy h4 (by simp only[conv];omega) (by simp;omega) (by omega)) (ih _ _ _ _ _ _ (h.elsed hk he hlt))
     ·refine .inl ⟨_,.stop (ah3 hi (aik hx h5 sm.1 hy ?_ (by simp;omega))) rfl,.stop (ajX hx h5 he sm.1 hy ?_ (by simp;omega)) (.inr rfl)⟩
      ·by_cases q:y.Op=4
       ·exact .inr λw=>h4 ⟨q,w⟩
       ·exact .inl q
      ·by_cases q:y.Op=4
       ·refine .inr ?_
        have:s.Else ≠ -1:=λw=>h4 ⟨q,w⟩
        simp only[conv];omega
       ·exact .inl q
   ·by_cases h11:x.Op=11
    ·rcases h.stk.inv with⟨rfl,rfl⟩ | ⟨op',s,st',e,rfl,rfl,hk,he,hlt⟩
     ·have hm:=aiI (c:=c) (i:=i) (d:=d) (dn:=dn) hx h11 (by omega)
      have hr:=al4 (c:=c) (i:=i) (deep:=deep) (out:=out) hx h11 (by omega)
      by_cases hq:i+1=c.length
      ·rw[decide_eq_true (by omega)]at hm
       rw[if_pos hq]at hr
       refine .inr ⟨d,[],dn,.pass (aoZ hi (by omega) hm) (.stop (apx (by omega)) rfl),.stop hr ?_,?_,by omega⟩
       ·rw[h.deep]
        by_cases h64:d>64
        ·rw[if_pos h64,if_pos (by simp[h64])]
        ·rw[if_neg h64,if_neg (by simp[h64])]
         have p:=h.perm
         rw[List.nil_append]at p
         have e1:aaL RKey (dn.map conv)=out:=by
          refine adm RKey ((abM RKey _).trans p) (abZ RKey _) ?_ ?_
          ·have:=h.keys
           rw[List.pairwise_map]at this
           exact this.imp λh=>Int.le_of_lt h
          ·refine(((abM RKey (dn.map conv)).trans p).map RKey).nodup_iff.2 ?_
           have:=h.keys
           exact this.imp λh=>by omega
         rw[aiE]at e1
         rw[e1]
       ·have p:=h.perm
        rw[List.nil_append]at p
        have p2:=(p.map RKey).nodup_iff.2 (h.keys.imp λh=>by omega)
        rw[List.map_map]at p2
        exact p2
      ·rw[decide_eq_false (by omega)]at hm
       rw[if_neg hq]at hr
       exact .inl ⟨_,.stop (ah3 hi hm) rfl,.stop hr (.inr rfl)⟩
     ·simp only[List.length_append,List.length_cons,List.length_nil]at l1 l2
      exact ae8 hi (by omega) (amo hx h11 (by omega) (by simp;omega) (by omega)) (an2 hx h11 he (by simp;omega) (by omega)) (ih _ _ _ _ _ _ (h.ended hk he hlt))
    ·exact ae8 hi (by omega) (aiz hx ho h5 h11 (by omega)) (aiM hx ho h5 h11 (by omega)) (ih _ _ _ _ _ _ h.next)
theorem aiZ:Rel 0 0 [] [] false [] []:=⟨rfl,⟨Int.le_refl _,Int.le_refl _⟩,.nil,.nil,.nil,(λ_ h=>by cases h),(λ_ h=>by cases h),Nat.le_refl _⟩
theorem of_both{c:List ag}(hc:c.length<=100000):∃ (q:Int) (S:List Span),S.length<=1000000/\Wp (λk=>bt.f k c) (· = (q,S))/\Wp (λk=>bE.f k c) (· = (q,S.map conv)):=by
 by_cases h0:c.length=0
 ·refine⟨12,[],by simp,.succ ?_,.succ ?_⟩
  ·simp only[bt.f]
   exact .pos (by omega) (.one rfl)
  ·simp only[bE.f]
   refine .alt (Q:=λ_=>True) (Q2:=λ_=>False) (Lp.wp (.stop (akx (i:=0) (by omega)) trivial)) (λ_ _=>.one rfl) (λ_ h=>h.elim)
 ·rcases both hc c.length 0 0 [] [] false [] [] (by omega) (by omega) aiZ with⟨⟨d,op,dn⟩,h1,h2⟩ | ⟨d,op,dn,h1,h2,h3,h4⟩
  ·refine⟨12,[],by simp,.succ ?_,.succ ?_⟩
   ·simp only[bt.f]
    refine .neg (by omega) (.alt (Q:=λ_=>False) (Q2:=λ_=>True) (h1.wp.mono λa ha=>by subst ha;trivial) (λ_ h=>h.elim) (λo _=>.one rfl))
   ·simp only[bE.f]
    refine .alt (Q:=λ_=>True) (Q2:=λo=>o=(12,[])) (h2.wp.mono λa ha=>?_) (λ_ _=>.one rfl) (λo h=>?_)
    ·rcases ha with rfl | rfl
     ·trivial
     ·rfl
    ·subst h;exact .one rfl
  ·by_cases h64:d>64
   ·refine⟨26,[],by simp,.succ ?_,.succ ?_⟩
    ·simp only[bt.f]
     refine .neg (by omega) (.alt (Q:=λo=>o.1>64) (Q2:=λ_=>False) (h1.wp.mono λa ha=>by subst ha;exact h64) (λo h=>?_) (λ_ h=>h.elim))
     obtain⟨a,b,e⟩:=o
     exact .pos h (.one rfl)
    ·simp only[bE.f]
     refine .alt (Q:=λ_=>False) (Q2:=λo=>o=(26,[])) (h2.wp.mono λa ha=>?_) (λ_ h=>h.elim) (λo h=>?_)
     ·subst ha;rw[if_pos h64];rfl
     ·subst h;exact .one rfl
   ·refine⟨0,aaL kAt dn,by rw[aeh];exact h4,.succ ?_,.succ ?_⟩
    ·simp only[bt.f]
     refine .neg (by omega) (.alt (Q:=λo=>o.1=d/\o.2.2=dn) (Q2:=λ_=>False) (h1.wp.mono λa ha=>by subst ha;exact⟨rfl,rfl⟩) (λo h=>?_) (λ_ h=>h.elim))
     obtain⟨a,b,e⟩:=o
     obtain⟨h5,h6⟩:=h
     dsimp only at h5 h6 ⊢
     subst h5;subst h6
     refine .neg h64 (.bind (Q:=λ_=>True) ⟨(),trivial,1,λk hk=>?_⟩ (λ_ _=>.one rfl))
     obtain⟨k,rfl⟩:∃ j,k=j+1:=⟨k-1,by omega⟩
     simp only[alS]
     rw[if_pos ⟨h3,by omega⟩]
    ·simp only[bE.f]
     refine .alt (Q:=λ_=>False) (Q2:=λo=>o=(0,(aaL kAt dn).map conv)) (h2.wp.mono λa ha=>?_) (λ_ h=>h.elim) (λo h=>?_)
     ·subst ha;rw[if_neg h64];rfl
     ·subst h;exact .one rfl
end Go.R4.Mt
