import Derived.Test.YtganajogkdinaaaGreatGKnP
set_option linter.all false
namespace Go.R4
open Go.Proofs Go.Ev
set_option maxRecDepth 100000
theorem akA(j:Nat):(List.range 197).all (λn=>((aC.f (j+12) (n:Int)).map (·.2.2.2) == some (acc (n:Int)))&&(((aO.f (j+12) (n:Int)).map (λr=>decide (r.1>0))) == some (acc (n:Int))))=true:=by kernel_rfl
theorem ajX(j:Nat):(List.range 10).all (λn=>((aC.f (j+12) ((n+64514:Nat):Int)).map (·.2.2.2) == some (acc ((n+64514:Nat):Int)))&&(((aO.f (j+12) ((n+64514:Nat):Int)).map (λr=>decide (r.1>0))) == some (acc ((n+64514:Nat):Int))))=true:=by kernel_rfl
theorem akB{op:Int}:acc op=true↔(op=40∨op=41∨op=43∨op=44∨op=45∨op=46∨op=47∨op=48∨op=49∨op=50∨op=51∨op=52∨op=53∨op=54∨op=55∨op=57∨op=58∨op=59∨op=60∨op=61∨op=62):=by simp[acc]
theorem al7{op:Int}(h:acc op=true):40<=op/\op<=62:=by have:=akB.1 h;omega
theorem anQ{op:Int}(h:op<40∨62<op):acc op=false:=by
 cases e:acc op with
 | false=>rfl
 | true=>have:=al7 e;omega
theorem aos(j:Nat)(op:Int):(aC.f (j+12) op).map (·.2.2.2)=some (acc op)/\(aO.f (j+12) op).map (λr=>decide (r.1>0))=some (acc op):=by
 by_cases h:Far op
 ·rw[aiM h,ahx h,anQ (by unfold Far at h;omega)];exact⟨rfl,rfl⟩
 ·have:=ag0 (f:=λop=>((aC.f (j+12) op).map (·.2.2.2) == some (acc op))&&(((aO.f (j+12) op).map (λr=>decide (r.1>0))) == some (acc op))) (akA j) (ajX j) h
  simpa only[Bool.and_eq_true,beq_iff_eq]using this
theorem amw{α:Type}{f:Nat->Option α}{a:α}{n:Nat}(h:∀ j,f (j+n)=some a){P:α->Prop}(hp:P a):Wp f P:=
 .at_ n (λk hk=>by obtain⟨j,rfl⟩:=Nat.exists_eq_add_of_le' hk;exact h j) hp
theorem aok{α β:Type}{x:Option α}{g:α->β}{b:β}(h:x.map g=some b):Wp (λ_=>x) (λr=>g r=b):=by
 cases x with
 | none=>cases h
 | some x=>exact .one (Option.some.inj h)
theorem aiI(op:Int):Wp (λk=>aC.f k op) (λr=>r.2.2.2=acc op):=by
 have h0:=aok (aos 0 op).1
 refine .succ ?_
 simp only[aC.f]at h0 ⊢
 exact h0
theorem amo(op:Int):Wp (λk=>ce.f k op) (λr=>Tell (op=65∨op=66∨op=68) r.2):=by
 refine .succ ?_
 simp only[ce.f]
 exact .ite (λh=>.one (.yes (by omega))) (λ_=>.ite (λh=>.one (.yes (by omega))) (λ_=>.ite (λh=>.one (.yes (by omega))) (λ_=>.one (.no (by omega)))))
theorem abc(op:Int):Wp (λk=>ba.f k op) (Tell (2<=op/\op<=4)):=by
 refine .succ ?_
 simp only[ba.f]
 exact .ite (λh=>.one (.dec (by omega))) (λh=>.one (.no (by omega)))
theorem aaN(n m:Int):Wp (λk=>am.f k n m) (Tell (0<=n/\n<m)):=by
 refine .succ ?_
 simp only[am.f]
 exact .ite (λh=>.one (.dec (by omega))) (λh=>.one (.no (by omega)))
theorem acs(op:Int):(cls op=0/\2<=op/\op<=4)∨(cls op=1/\acc op=true)∨(cls op=2/\op=65)∨(cls op=3/\(op=66∨op=68))∨(cls op=4/\(op=12∨op=13))∨(cls op=5/\op=14)∨(cls op=6/\(op=16∨op=18))
  ∨ (cls op=7/\(op=32∨op=33∨op=34))∨(cls op=8/\(op=35∨op=36))∨(cls op=9/\(op=63∨op=64∨op=64523))∨(cls op=10/\op=64520)∨(cls op=11/\op=64521)∨(cls op=12/\op=64522)
  ∨ (cls op=13/\acc op=false/\¬(2<=op/\op<=4)/\op≠65/\op≠66/\op≠68/\op≠12/\op≠13/\op≠14/\op≠16/\op≠18/\op≠32/\op≠33/\op≠34/\op≠35/\op≠36/\op≠63/\op≠64/\op≠64523/\op≠64520/\op≠64521/\op≠64522):=by
 by_cases h0:2<=op/\op<=4
 ·exact .inl ⟨by unfold cls;rw[if_pos h0],h0⟩
 by_cases h1:acc op=true
 ·exact .inr (.inl ⟨by unfold cls;rw[if_neg h0,if_pos h1],h1⟩)
 by_cases h2:op=65
 ·exact .inr (.inr (.inl ⟨by unfold cls;rw[if_neg h0,if_neg h1,if_pos h2],h2⟩))
 by_cases h3:op=66∨op=68
 ·exact .inr (.inr (.inr (.inl ⟨by unfold cls;rw[if_neg h0,if_neg h1,if_neg h2,if_pos h3],h3⟩)))
 by_cases h4:op=12∨op=13
 ·exact .inr (.inr (.inr (.inr (.inl ⟨by unfold cls;rw[if_neg h0,if_neg h1,if_neg h2,if_neg h3,if_pos h4],h4⟩))))
 by_cases h5:op=14
 ·exact .inr (.inr (.inr (.inr (.inr (.inl ⟨by unfold cls;rw[if_neg h0,if_neg h1,if_neg h2,if_neg h3,if_neg h4,if_pos h5],h5⟩)))))
 by_cases h6:op=16∨op=18
 ·exact .inr (.inr (.inr (.inr (.inr (.inr (.inl ⟨by unfold cls;rw[if_neg h0,if_neg h1,if_neg h2,if_neg h3,if_neg h4,if_neg h5,if_pos h6],h6⟩))))))
 by_cases h7:op=32∨op=33∨op=34
 ·exact .inr (.inr (.inr (.inr (.inr (.inr (.inr (.inl ⟨by unfold cls;rw[if_neg h0,if_neg h1,if_neg h2,if_neg h3,if_neg h4,if_neg h5,if_neg h6,if_pos h7],h7⟩)))))))
 by_cases h8:op=35∨op=36
 ·exact .inr (.inr (.inr (.inr (.inr (.inr (.inr (.inr (.inl ⟨by unfold cls;rw[if_neg h0,if_neg h1,if_neg h2,if_neg h3,if_neg h4,if_neg h5,if_neg h6,if_neg h7,if_pos h8],h8⟩))))))))
 by_cases h9:op=63∨op=64∨op=64523
 ·exact .inr (.inr (.inr (.inr (.inr (.inr (.inr (.inr (.inr (.inl ⟨by unfold cls;rw[if_neg h0,if_neg h1,if_neg h2,if_neg h3,if_neg h4,if_neg h5,if_neg h6,if_neg h7,if_neg h8,if_pos h9],h9⟩)))))))))
 by_cases h10:op=64520
 ·exact .inr (.inr (.inr (.inr (.inr (.inr (.inr (.inr (.inr (.inr (.inl ⟨by unfold cls;rw[if_neg h0,if_neg h1,if_neg h2,if_neg h3,if_neg h4,if_neg h5,if_neg h6,if_neg h7,if_neg h8,if_neg h9,if_pos h10],h10⟩))))))))))
 by_cases h11:op=64521
 ·exact .inr (.inr (.inr (.inr (.inr (.inr (.inr (.inr (.inr (.inr (.inr (.inl ⟨by unfold cls;rw[if_neg h0,if_neg h1,if_neg h2,if_neg h3,if_neg h4,if_neg h5,if_neg h6,if_neg h7,if_neg h8,if_neg h9,if_neg h10,if_pos h11],h11⟩)))))))))))
 by_cases h12:op=64522
 ·exact .inr (.inr (.inr (.inr (.inr (.inr (.inr (.inr (.inr (.inr (.inr (.inr (.inl ⟨by unfold cls;rw[if_neg h0,if_neg h1,if_neg h2,if_neg h3,if_neg h4,if_neg h5,if_neg h6,if_neg h7,if_neg h8,if_neg h9,if_neg h10,if_neg h11,if_pos h12],h12⟩))))))))))))
 exact .inr (.inr (.inr (.inr (.inr (.inr (.inr (.inr (.inr (.inr (.inr (.inr (.inr (⟨by unfold cls;rw[if_neg h0,if_neg h1,if_neg h2,if_neg h3,if_neg h4,if_neg h5,if_neg h6,if_neg h7,if_neg h8,if_neg h9,if_neg h10,if_neg h11,if_neg h12],Bool.eq_false_iff.2 h1,by omega⟩)))))))))))))
def shp:Nat->ak
 | 0 | 4 | 6 | 7 | 8 | 9 | 11=>⟨true,false,false,false⟩
 | 1=>⟨true,false,true,false⟩
 | 2 | 3=>⟨false,false,true,false⟩
 | 5=>⟨false,false,false,true⟩
 | 10 | 12=>⟨true,true,false,false⟩
 |_=>⟨false,false,false,false⟩
def okA(i:ag):Nat->Prop
 | 0=>-4<=i.A/\i.A<64
 | 1=>(0<=i.A/\i.A<4)/\i.N<=4294967295
 | 2=>i.N<=4294967295
 | 4=>0<=i.A/\i.A<65
 | 5=>(1<=i.L.length/\i.L.length<=17)/\∀ e∈i.L,0<=e/\e<65
 | 6 | 7 | 8=>0<=i.A/\i.A<256
 | 9=>0<=i.A/\i.A<4
 | 10=>(0<=i.A/\i.A<4)/\(0<=i.B/\i.B<16)
 | 11=>0<=i.A/\i.A<16
 | 12=>(0<=i.A/\i.A<4)/\(0<=i.B/\i.B<4)
 |_=>True
end Go.R4
namespace Go.R4
open Go.Proofs Go.Ev
set_option maxRecDepth 100000
theorem or2{α:Type}{a b:Prop}[Decidable a][Decidable b]{P:α->Prop}:Wp (λ_=>if a then some (.inl true:Bool⊕α)else if b then some (.inl true)else some (.inl false)) (aaT (Tell (a∨b)) P):=
 .ite (λh=>.left (.yes (.inl h))) (λh=>.ite (λh=>.left (.yes (.inr h))) (λh2=>.left (.no λq=>q.elim h h2)))
theorem or3{α:Type}{a b c:Prop}[Decidable a][Decidable b][Decidable c]{P:α->Prop}:Wp (λ_=>if a then some (.inl true:Bool⊕α)else if b then some (.inl true)else if c then some (.inl true)else some (.inl false)) (aaT (Tell (a∨b∨c)) P):=
 .ite (λh=>.left (.yes (.inl h))) (λh=>.ite (λh=>.left (.yes (.inr (.inl h)))) (λh2=>.ite (λh=>.left (.yes (.inr (.inr h)))) (λh3=>.left (.no λq=>q.elim h (λq=>q.elim h2 h3)))))
def ShP(i:ag)(r:ak×Bool):Prop:=r.1=shp (cls i.Op)/\Tell (okA i (cls i.Op)) r.2
theorem ShP.mk_{i:ag}{c:Nat}(hc:cls i.Op=c){s:ak}{b:Bool}(h1:s=shp c)(h2:Tell (okA i c) b):ShP i (s,b):=by subst hc;exact⟨h1,h2⟩
theorem aoT(i:ag)(hL:i.L.length<=17):Wp (λk=>aV.f k i.L) (Tell (¬∀ e∈i.L,0<=e/\e<65)):=by
 refine .succ ?_
 simp only[aV.f]
 refine aau (.succ ?_)
 simp only[bg.f]
 refine aaV i.L (by omega) (λe=>0<=e/\e<65) (λe _=>.succ ?_)
 simp only[bJ.f]
 exact ace (aaN _ _)
theorem acq(i:ag):Wp (λk=>bZ.f k i) (ShP i):=by
 refine .succ ?_
 simp only[bZ.f]
 refine .bind (aiI _) (λr ha=>?_)
 obtain⟨r1,r2,r3,r87⟩:=r
 dsimp only at ha ⊢
 refine .bind (amo _) (λr hc=>?_)
 obtain⟨r89,r90⟩:=r
 dsimp only at hc ⊢
 refine .bind (abc _) (λr96 ho=>?_)
 refine .tif ho (λh0=>?_) (λh0=>?_)
 ·have hc:cls i.Op=0:=by unfold cls;rw[if_pos h0]
  exact .ite (λh=>.one (.mk_ hc rfl (.dec (by simp only[okA];omega)))) (λh=>.one (.mk_ hc rfl (.no (by simp only[okA];omega))))
 refine .ite (λh1=>?_) (λh1=>?_)
 ·have hc:cls i.Op=1:=by unfold cls;rw[if_neg h0,if_pos (ha ▸ h1)]
  refine .bind (aaN _ _) (λr hr=>.tif hr (λh=>.one (.mk_ hc rfl (.dec (by simp only[okA];omega)))) (λh=>.one (.mk_ hc rfl (.no (by simp only[okA];omega)))))
 have h1':acc i.Op=false:=by rw[<-ha];exact Bool.eq_false_iff.2 h1
 refine .tif hc (λh=>?_) (λh3=>?_)
 ·refine .ite (λh2=>?_) (λh2=>?_)
  ·exact .one (.mk_ (c:=2) (by rw[h2];rfl) rfl (.dec (by simp only[okA])))
  ·refine .one (.mk_ (c:=3) ?_ rfl (.yes (by simp only[okA])))
   rcases h with h | h | h
   ·exact(h2 h).elim
   ·rw[h];rfl
   ·rw[h];rfl
 refine .seg (Q:=Tell (i.Op=12∨i.Op=13)) or2 (λx hx=>.tif hx (λh=>?_) (λh4=>?_))
 ·refine .bind (aaN _ _) (λr hr=>.one (.mk_ (c:=4) ?_ rfl (hr.iff (by simp only[okA]))))
  rcases h with h | h <;> rw[h] <;> rfl
 refine .ite (λh=>?_) (λh5=>?_)
 ·have hc:cls i.Op=5:=by rw[h];rfl
  refine .ite (λh1=>.ite (λh2=>?_) (λh2=>.one (.mk_ hc rfl (.no (by simp only[okA];omega))))) (λh1=>.one (.mk_ hc rfl (.no (by simp only[okA];omega))))
  refine .bind (aoT i (by omega)) (λr hr=>.one (.mk_ hc rfl (hr.not.iff ?_)))
  rw[Classical.not_not]
  exact⟨λh=>⟨⟨by omega,by omega⟩,h⟩,λh=>h.2⟩
 refine .seg (Q:=Tell (i.Op=16∨i.Op=18)) or2 (λx hx=>.tif hx (λh=>?_) (λh6=>?_))
 ·refine .bind (aaN _ _) (λr hr=>.one (.mk_ (c:=6) ?_ rfl (hr.iff (by simp only[okA]))))
  rcases h with h | h <;> rw[h] <;> rfl
 refine .seg (Q:=Tell (i.Op=32∨i.Op=33∨i.Op=34)) or3 (λx hx=>.tif hx (λh=>?_) (λh7=>?_))
 ·refine .bind (aaN _ _) (λr hr=>.one (.mk_ (c:=7) ?_ rfl (hr.iff (by simp only[okA]))))
  rcases h with h | h | h <;> rw[h] <;> rfl
 refine .seg (Q:=Tell (i.Op=35∨i.Op=36)) or2 (λx hx=>.tif hx (λh=>?_) (λh8=>?_))
 ·refine .bind (aaN _ _) (λr hr=>.one (.mk_ (c:=8) ?_ rfl (hr.iff (by simp only[okA]))))
  rcases h with h | h <;> rw[h] <;> rfl
 refine .seg (Q:=Tell (i.Op=63∨i.Op=64∨i.Op=64523)) or3 (λx hx=>.tif hx (λh=>?_) (λh9=>?_))
 ·refine .bind (aaN _ _) (λr hr=>.one (.mk_ (c:=9) ?_ rfl (hr.iff (by simp only[okA]))))
  rcases h with h | h | h <;> rw[h] <;> rfl
 refine .ite (λh=>?_) (λh10=>?_)
 ·have hc:cls i.Op=10:=by rw[h];rfl
  refine .bind (aaN _ _) (λr hr=>.tif hr (λh=>?_) (λh=>.one (.mk_ hc rfl (.no (λq=>h q.1)))))
  exact .bind (aaN _ _) (λr hr=>.one (.mk_ hc rfl (hr.iff ⟨λq=>⟨h,q⟩,λq=>q.2⟩)))
 refine .ite (λh=>?_) (λh11=>?_)
 ·have hc:cls i.Op=11:=by rw[h];rfl
  exact .bind (aaN _ _) (λr hr=>.one (.mk_ hc rfl (hr.iff (by simp only[okA]))))
 refine .ite (λh=>?_) (λh12=>?_)
 ·have hc:cls i.Op=12:=by rw[h];rfl
  refine .bind (aaN _ _) (λr hr=>.tif hr (λh=>?_) (λh=>.one (.mk_ hc rfl (.no (λq=>h q.1)))))
  exact .bind (aaN _ _) (λr hr=>.one (.mk_ hc rfl (hr.iff ⟨λq=>⟨h,q⟩,λq=>q.2⟩)))
 refine .one (.mk_ (c:=13) ?_ rfl (.yes (by simp only[okA])))
 unfold cls
 rw[if_neg h0,if_neg (by rw[h1'];decide),if_neg (by omega),if_neg (by omega),if_neg h4,if_neg h5,if_neg h6,if_neg h7,if_neg h8,if_neg h9,if_neg h10,if_neg h11,if_neg h12]
def aex(i:ag):Prop:=kn i.Op=true/\okA i (cls i.Op)/\((shp (cls i.Op)).a=false->i.A=0)/\((shp (cls i.Op)).b=false->i.B=0)/\((shp (cls i.Op)).n=false->i.N=0)/\((shp (cls i.Op)).l=false->i.L.length=0)
theorem ak8(op:Int):Wp (λk=>cu.f k op) (Tell (kn op=true)):=amw (n:=12) (λj=>(aoY j op).1) Iff.rfl
theorem anT(i:ag):Wp (λk=>db.f k i) (Tell (aex i)):=by
 refine .succ ?_
 simp only[db.f]
 refine .bind (acq i) (λr hr=>?_)
 obtain⟨r8,r9⟩:=r
 obtain⟨h8,h9⟩:=hr
 dsimp only at h8 h9 ⊢
 refine .bind (ak8 _) (λr11 hk=>?_)
 refine .tif hk (λhk=>?_) (λhk=>.one (.no λq=>hk q.1))
 refine .tif h9 (λho=>?_) (λho=>.one (.no λq=>ho q.2.1))
 unfold aex
 rw[<-h8]
 obtain⟨a,b,n,l⟩:=r8
 cases a <;> cases b <;> cases n <;> cases l <;> simp only[Bool.false_eq_true,if_false,if_true,false_implies,true_implies,and_true,true_and,hk,ho,reduceCtorEq]
 all_goals repeat' (first | exact .one (.yes (by simp_all)) | exact .one (.dec (by simp_all;try omega)) | exact .one (.no (by simp_all)) | refine .ite (λ_=>?_) (λ_=>?_))
end Go.R4
namespace Go.R4
open Go.Proofs Go.Ev
set_option maxRecDepth 100000
end Go.R4
namespace Go.R4
open Go.Proofs Go.Ev
set_option maxRecDepth 100000
end Go.R4
