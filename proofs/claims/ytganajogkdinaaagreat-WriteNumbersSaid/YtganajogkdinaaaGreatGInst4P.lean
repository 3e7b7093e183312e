import Derived.Test.YtganajogkdinaaaGreatGKnP
set_option linter.all false
namespace Go.R4
open Go.Proofs Go.Ev
set_option maxRecDepth 100000
theorem ajD(j:Nat):(List.range 197).all (λn=>((aD.f (j+12) (n:Int)).map (·.2.2.2) == some (acc (n:Int)))&&(((ax.f (j+12) (n:Int)).map (λr=>decide (r.1>0))) == some (acc (n:Int))))=true:=by kernel_rfl
theorem aiS(j:Nat):(List.range 10).all (λn=>((aD.f (j+12) ((n+64514:Nat):Int)).map (·.2.2.2) == some (acc ((n+64514:Nat):Int)))&&(((ax.f (j+12) ((n+64514:Nat):Int)).map (λr=>decide (r.1>0))) == some (acc ((n+64514:Nat):Int))))=true:=by kernel_rfl
theorem adY{op:Int}:acc op=true↔(op=40∨op=41∨op=43∨op=44∨op=45∨op=46∨op=47∨op=48∨op=49∨op=50∨op=51∨op=52∨op=53∨op=54∨op=55∨op=57∨op=58∨op=59∨op=60∨op=61∨op=62):=by simp[acc]
theorem amB{op:Int}(h:acc op=true):40<=op/\op<=62:=by have:=adY.1 h;omega
theorem anK{op:Int}(h:op<40∨62<op):acc op=false:=by
 cases e:acc op with
 | false=>rfl
 | true=>have:=amB e;omega
theorem amO(j:Nat)(op:Int):(aD.f (j+12) op).map (·.2.2.2)=some (acc op)/\(ax.f (j+12) op).map (λr=>decide (r.1>0))=some (acc op):=by
 by_cases h:Far op
 ·rw[aj4 h,ahT h,anK (by unfold Far at h;omega)];exact⟨rfl,rfl⟩
 ·have:=ah2 (f:=λop=>((aD.f (j+12) op).map (·.2.2.2) == some (acc op))&&(((ax.f (j+12) op).map (λr=>decide (r.1>0))) == some (acc op))) (ajD j) (aiS j) h
  simpa only[Bool.and_eq_true,beq_iff_eq]using this
theorem ahn{α:Type}{f:Nat->Option α}{a:α}{n:Nat}(h:∀ j,f (j+n)=some a){P:α->Prop}(hp:P a):Wp f P:=
 .at_ n (λk hk=>by obtain⟨j,rfl⟩:=Nat.exists_eq_add_of_le' hk;exact h j) hp
theorem am1{α β:Type}{x:Option α}{g:α->β}{b:β}(h:x.map g=some b):Wp (λ_=>x) (λr=>g r=b):=by
 cases x with
 | none=>cases h
 | some x=>exact .one (Option.some.inj h)
theorem ajd(op:Int):Wp (λk=>aD.f k op) (λr=>r.2.2.2=acc op):=by
 have h0:=am1 (amO 0 op).1
 refine .succ ?_
 simp only[aD.f]at h0 ⊢
 exact h0
theorem ahh(op:Int):Wp (λk=>ax.f k op) (λr=>(0<r.1↔acc op=true)):=by
 have h0:=(am1 (amO 0 op).2).mono (Q:=λr:Int×Int×Bool=>decide (r.1>0)=acc op) (P:=λr:Int×Int×Bool=>(0<r.1↔acc op=true)) (λr h=>by rw[<-h];simp)
 refine .succ ?_
 simp only[ax.f]at h0 ⊢
 exact h0
theorem amI(op:Int):Wp (λk=>cH.f k op) (λr=>Tell (op=65∨op=66∨op=68) r.2):=by
 refine .succ ?_
 simp only[cH.f]
 exact .ite (λh=>.one (.yes (by omega))) (λ_=>.ite (λh=>.one (.yes (by omega))) (λ_=>.ite (λh=>.one (.yes (by omega))) (λ_=>.one (.no (by omega)))))
theorem ajA(op:Int):Wp (λk=>bH.f k op) (λr=>r=0 ↔ ¬(op=65∨op=66∨op=68)):=by
 refine .succ ?_
 simp only[bH.f]
 exact .ite (λh=>.one (by omega)) (λ_=>.ite (λh=>.one (by omega)) (λ_=>.ite (λh=>.one (by omega)) (λ_=>.one (by omega))))
theorem abg(op:Int):Wp (λk=>bj.f k op) (Tell (2<=op/\op<=4)):=by
 refine .succ ?_
 simp only[bj.f]
 exact .ite (λh=>.one (.dec (by omega))) (λh=>.one (.no (by omega)))
theorem acU(op:Int):Wp (λk=>aX.f k op) (Tell (2<=op/\op<=4)):=by
 refine .succ ?_
 simp only[aX.f]
 exact .ite (λh=>.one (.dec (by omega))) (λh=>.one (.no (by omega)))
theorem agx(n m:Int):Wp (λk=>cF.f k n m) (Tell (0<=n/\n<=m)):=by
 refine .succ ?_
 simp only[cF.f]
 exact .ite (λh=>.one (.dec (by omega))) (λh=>.one (.no (by omega)))
theorem aaV(n m:Int):Wp (λk=>ao.f k n m) (Tell (0<=n/\n<m)):=by
 refine .succ ?_
 simp only[ao.f]
 exact .ite (λh=>.one (.dec (by omega))) (λh=>.one (.no (by omega)))
theorem abh(op:Int):(cls op=0/\2<=op/\op<=4)∨(cls op=1/\acc op=true)∨(cls op=2/\op=65)∨(cls op=3/\(op=66∨op=68))∨(cls op=4/\(op=12∨op=13))∨(cls op=5/\op=14)∨(cls op=6/\(op=16∨op=18))
  ∨ (cls op=7/\(op=32∨op=33∨op=34))∨(cls op=8/\(op=35∨op=36))∨(cls op=9/\(op=63∨op=64∨op=64523))∨(cls op=10/\op=64520)∨(cls op=11/\op=64521)∨(cls op=12/\op=64522)
  ∨ (cls op=13/\acc op=false/\¬(2<=op/\op<=4)/\op≠65/\op≠66/\op≠68/\op≠12/\op≠13/\op≠14/\op≠16/\op≠18/\op≠32/\op≠33/\op≠34/\op≠35/\op≠36/\op≠63/\op≠64/\op≠64523/\op≠64520/\op≠64521/\op≠64522):=by
 by_cases h0:2<=op/\op<=4
 ·exact .inl ⟨by unfold cls;rw[if_pos h0],h0⟩
 by_cases h1:acc op=true
 ·exact .inr (.inl ⟨by unfold cls;rw[if_neg h0,if_pos h1],h1⟩)
 by_cases h2:op=65
 ·exact .inr (.inr (.inl ⟨by unfold cls;rw[if_neg h0,if_neg h1,if_pos h2],h2⟩))
 by_cases h3:op=66∨op=68
 ·exact .inr (.inr (.inr (.inl ⟨by unfold cls;rw[if_neg h0,if_neg h1,if_neg h2,if_pos h3],h3⟩)))
 by_cases h4:op=12∨op=13
 ·exact .inr (.inr (.inr (.inr (.inl ⟨by unfold cls;rw[if_neg h0,if_neg h1,if_neg h2,if_neg h3,if_pos h4],h4⟩))))
 by_cases h5:op=14
 ·exact .inr (.inr (.inr (.inr (.inr (.inl ⟨by unfold cls;rw[if_neg h0,if_neg h1,if_neg h2,if_neg h3,if_neg h4,if_pos h5],h5⟩)))))
 by_cases h6:op=16∨op=18
 ·exact .inr (.inr (.inr (.inr (.inr (.inr (.inl ⟨by unfold cls;rw[if_neg h0,if_neg h1,if_neg h2,if_neg h3,if_neg h4,if_neg h5,if_pos h6],h6⟩))))))
 by_cases h7:op=32∨op=33∨op=34
 ·exact .inr (.inr (.inr (.inr (.inr (.inr (.inr (.inl ⟨by unfold cls;rw[if_neg h0,if_neg h1,if_neg h2,if_neg h3,if_neg h4,if_neg h5,if_neg h6,if_pos h7],h7⟩)))))))
 by_cases h8:op=35∨op=36
 ·exact .inr (.inr (.inr (.inr (.inr (.inr (.inr (.inr (.inl ⟨by unfold cls;rw[if_neg h0,if_neg h1,if_neg h2,if_neg h3,if_neg h4,if_neg h5,if_neg h6,if_neg h7,if_pos h8],h8⟩))))))))
 by_cases h9:op=63∨op=64∨op=64523
 ·exact .inr (.inr (.inr (.inr (.inr (.inr (.inr (.inr (.inr (.inl ⟨by unfold cls;rw[if_neg h0,if_neg h1,if_neg h2,if_neg h3,if_neg h4,if_neg h5,if_neg h6,if_neg h7,if_neg h8,if_pos h9],h9⟩)))))))))
 by_cases h10:op=64520
 ·exact .inr (.inr (.inr (.inr (.inr (.inr (.inr (.inr (.inr (.inr (.inl ⟨by unfold cls;rw[if_neg h0,if_neg h1,if_neg h2,if_neg h3,if_neg h4,if_neg h5,if_neg h6,if_neg h7,if_neg h8,if_neg h9,if_pos h10],h10⟩))))))))))
 by_cases h11:op=64521
 ·exact .inr (.inr (.inr (.inr (.inr (.inr (.inr (.inr (.inr (.inr (.inr (.inl ⟨by unfold cls;rw[if_neg h0,if_neg h1,if_neg h2,if_neg h3,if_neg h4,if_neg h5,if_neg h6,if_neg h7,if_neg h8,if_neg h9,if_neg h10,if_pos h11],h11⟩)))))))))))
 by_cases h12:op=64522
 ·exact .inr (.inr (.inr (.inr (.inr (.inr (.inr (.inr (.inr (.inr (.inr (.inr (.inl ⟨by unfold cls;rw[if_neg h0,if_neg h1,if_neg h2,if_neg h3,if_neg h4,if_neg h5,if_neg h6,if_neg h7,if_neg h8,if_neg h9,if_neg h10,if_neg h11,if_pos h12],h12⟩))))))))))))
 exact .inr (.inr (.inr (.inr (.inr (.inr (.inr (.inr (.inr (.inr (.inr (.inr (.inr (⟨by unfold cls;rw[if_neg h0,if_neg h1,if_neg h2,if_neg h3,if_neg h4,if_neg h5,if_neg h6,if_neg h7,if_neg h8,if_neg h9,if_neg h10,if_neg h11,if_neg h12],Bool.eq_false_iff.2 h1,by omega⟩)))))))))))))
def shp:Nat->am
 | 0 | 4 | 6 | 7 | 8 | 9 | 11=>⟨true,false,false,false⟩
 | 1=>⟨true,false,true,false⟩
 | 2 | 3=>⟨false,false,true,false⟩
 | 5=>⟨false,false,false,true⟩
 | 10 | 12=>⟨true,true,false,false⟩
 |_=>⟨false,false,false,false⟩
def okA(i:ag):Nat->Prop
 | 0=>-4<=i.A/\i.A<64
 | 1=>(0<=i.A/\i.A<4)/\i.N<=4294967295
 | 2=>i.N<=4294967295
 | 4=>0<=i.A/\i.A<65
 | 5=>(1<=i.L.length/\i.L.length<=17)/\∀ e∈i.L,0<=e/\e<65
 | 6 | 7 | 8=>0<=i.A/\i.A<256
 | 9=>0<=i.A/\i.A<4
 | 10=>(0<=i.A/\i.A<4)/\(0<=i.B/\i.B<16)
 | 11=>0<=i.A/\i.A<16
 | 12=>(0<=i.A/\i.A<4)/\(0<=i.B/\i.B<4)
 |_=>True
end Go.R4
namespace Go.R4
open Go.Proofs Go.Ev
set_option maxRecDepth 100000
theorem or2{α:Type}{a b:Prop}[Decidable a][Decidable b]{P:α->Prop}:Wp (λ_=>if a then some (.inl true:Bool⊕α)else if b then some (.inl true)else some (.inl false)) (aaJ (Tell (a∨b)) P):=
 .ite (λh=>.left (.yes (.inl h))) (λh=>.ite (λh=>.left (.yes (.inr h))) (λh2=>.left (.no λq=>q.elim h h2)))
theorem or3{α:Type}{a b c:Prop}[Decidable a][Decidable b][Decidable c]{P:α->Prop}:Wp (λ_=>if a then some (.inl true:Bool⊕α)else if b then some (.inl true)else if c then some (.inl true)else some (.inl false)) (aaJ (Tell (a∨b∨c)) P):=
 .ite (λh=>.left (.yes (.inl h))) (λh=>.ite (λh=>.left (.yes (.inr (.inl h)))) (λh2=>.ite (λh=>.left (.yes (.inr (.inr h)))) (λh3=>.left (.no λq=>q.elim h (λq=>q.elim h2 h3)))))
def ShP(i:ag)(r:am×Bool):Prop:=r.1=shp (cls i.Op)/\Tell (okA i (cls i.Op)) r.2
theorem ShP.mk_{i:ag}{c:Nat}(hc:cls i.Op=c){s:am}{b:Bool}(h1:s=shp c)(h2:Tell (okA i c) b):ShP i (s,b):=by subst hc;exact⟨h1,h2⟩
theorem apt(i:ag)(hL:i.L.length<=17):Wp (λk=>bb.f k i.L) (Tell (¬∀ e∈i.L,0<=e/\e<65)):=by
 refine .succ ?_
 simp only[bb.f]
 refine aat (.succ ?_)
 simp only[bz.f]
 refine aa1 i.L (by omega) (λe=>0<=e/\e<65) (λe _=>.succ ?_)
 simp only[cc.f]
 exact acp (aaV _ _)
theorem ac1(i:ag):Wp (λk=>cz.f k i) (ShP i):=by
 refine .succ ?_
 simp only[cz.f]
 refine .bind (ajd _) (λr ha=>?_)
 obtain⟨r1,r2,r3,r87⟩:=r
 dsimp only at ha ⊢
 refine .bind (amI _) (λr hc=>?_)
 obtain⟨r89,r90⟩:=r
 dsimp only at hc ⊢
 refine .bind (abg _) (λr96 ho=>?_)
 refine .tif ho (λh0=>?_) (λh0=>?_)
 ·have hc:cls i.Op=0:=by unfold cls;rw[if_pos h0]
  exact .ite (λh=>.one (.mk_ hc rfl (.dec (by simp only[okA];omega)))) (λh=>.one (.mk_ hc rfl (.no (by simp only[okA];omega))))
 refine .ite (λh1=>?_) (λh1=>?_)
 ·have hc:cls i.Op=1:=by unfold cls;rw[if_neg h0,if_pos (ha ▸ h1)]
  refine .bind (aaV _ _) (λr hr=>.tif hr (λh=>.one (.mk_ hc rfl (.dec (by simp only[okA];omega)))) (λh=>.one (.mk_ hc rfl (.no (by simp only[okA];omega)))))
 have h1':acc i.Op=false:=by rw[<-ha];exact Bool.eq_false_iff.2 h1
 refine .tif hc (λh=>?_) (λh3=>?_)
 ·refine .ite (λh2=>?_) (λh2=>?_)
  ·exact .one (.mk_ (c:=2) (by rw[h2];rfl) rfl (.dec (by simp only[okA])))
  ·refine .one (.mk_ (c:=3) ?_ rfl (.yes (by simp only[okA])))
   rcases h with h | h | h
   ·exact(h2 h).elim
   ·rw[h];rfl
   ·rw[h];rfl
 refine .seg (Q:=Tell (i.Op=12∨i.Op=13)) or2 (λx hx=>.tif hx (λh=>?_) (λh4=>?_))
 ·refine .bind (aaV _ _) (λr hr=>.one (.mk_ (c:=4) ?_ rfl (hr.iff (by simp only[okA]))))
  rcases h with h | h <;> rw[h] <;> rfl
 refine .ite (λh=>?_) (λh5=>?_)
 ·have hc:cls i.Op=5:=by rw[h];rfl
  refine .ite (λh1=>.ite (λh2=>?_) (λh2=>.one (.mk_ hc rfl (.no (by simp only[okA];omega))))) (λh1=>.one (.mk_ hc rfl (.no (by simp only[okA];omega))))
  refine .bind (apt i (by omega)) (λr hr=>.one (.mk_ hc rfl (hr.not.iff ?_)))
  rw[Classical.not_not]
  exact⟨λh=>⟨⟨by omega,by omega⟩,h⟩,λh=>h.2⟩
 refine .seg (Q:=Tell (i.Op=16∨i.Op=18)) or2 (λx hx=>.tif hx (λh=>?_) (λh6=>?_))
 ·refine .bind (aaV _ _) (λr hr=>.one (.mk_ (c:=6) ?_ rfl (hr.iff (by simp only[okA]))))
  rcases h with h | h <;> rw[h] <;> rfl
 refine .seg (Q:=Tell (i.Op=32∨i.Op=33∨i.Op=34)) or3 (λx hx=>.tif hx (λh=>?_) (λh7=>?_))
 ·refine .bind (aaV _ _) (λr hr=>.one (.mk_ (c:=7) ?_ rfl (hr.iff (by simp only[okA]))))
  rcases h with h | h | h <;> rw[h] <;> rfl
 refine .seg (Q:=Tell (i.Op=35∨i.Op=36)) or2 (λx hx=>.tif hx (λh=>?_) (λh8=>?_))
 ·refine .bind (aaV _ _) (λr hr=>.one (.mk_ (c:=8) ?_ rfl (hr.iff (by simp only[okA]))))
  rcases h with h | h <;> rw[h] <;> rfl
 refine .seg (Q:=Tell (i.Op=63∨i.Op=64∨i.Op=64523)) or3 (λx hx=>.tif hx (λh=>?_) (λh9=>?_))
 ·refine .bind (aaV _ _) (λr hr=>.one (.mk_ (c:=9) ?_ rfl (hr.iff (by simp only[okA]))))
  rcases h with h | h | h <;> rw[h] <;> rfl
 refine .ite (λh=>?_) (λh10=>?_)
 ·have hc:cls i.Op=10:=by rw[h];rfl
  refine .bind (aaV _ _) (λr hr=>.tif hr (λh=>?_) (λh=>.one (.mk_ hc rfl (.no (λq=>h q.1)))))
  exact .bind (aaV _ _) (λr hr=>.one (.mk_ hc rfl (hr.iff ⟨λq=>⟨h,q⟩,λq=>q.2⟩)))
 refine .ite (λh=>?_) (λh11=>?_)
 ·have hc:cls i.Op=11:=by rw[h];rfl
  exact .bind (aaV _ _) (λr hr=>.one (.mk_ hc rfl (hr.iff (by simp only[okA]))))
 refine .ite (λh=>?_) (λh12=>?_)
 ·have hc:cls i.Op=12:=by rw[h];rfl
  refine .bind (aaV _ _) (λr hr=>.tif hr (λh=>?_) (λh=>.one (.mk_ hc rfl (.no (λq=>h q.1)))))
  exact .bind (aaV _ _) (λr hr=>.one (.mk_ hc rfl (hr.iff ⟨λq=>⟨h,q⟩,λq=>q.2⟩)))
 refine .one (.mk_ (c:=13) ?_ rfl (.yes (by simp only[okA])))
 unfold cls
 rw[if_neg h0,if_neg (by rw[h1'];decide),if_neg (by omega),if_neg (by omega),if_neg h4,if_neg h5,if_neg h6,if_neg h7,if_neg h8,if_neg h9,if_neg h10,if_neg h11,if_neg h12]
def ac3(i:ag):Prop:=kn i.Op=true/\okA i (cls i.Op)/\((shp (cls i.Op)).a=false->i.A=0)/\((shp (cls i.Op)).b=false->i.B=0)/\((shp (cls i.Op)).n=false->i.N=0)/\((shp (cls i.Op)).l=false->i.L.length=0)
theorem alc(op:Int):Wp (λk=>cS.f k op) (Tell (kn op=true)):=ahn (n:=12) (λj=>(apj j op).1) Iff.rfl
theorem ak4(op:Int):Wp (λk=>bM.f k op) (Tell (kn op=true)):=ahn (n:=12) (λj=>(apj j op).2) Iff.rfl
theorem ano(i:ag):Wp (λk=>dG.f k i) (Tell (ac3 i)):=by
 refine .succ ?_
 simp only[dG.f]
 refine .bind (ac1 i) (λr hr=>?_)
 obtain⟨r8,r9⟩:=r
 obtain⟨h8,h9⟩:=hr
 dsimp only at h8 h9 ⊢
 refine .bind (alc _) (λr11 hk=>?_)
 refine .tif hk (λhk=>?_) (λhk=>.one (.no λq=>hk q.1))
 refine .tif h9 (λho=>?_) (λho=>.one (.no λq=>ho q.2.1))
 unfold ac3
 rw[<-h8]
 obtain⟨a,b,n,l⟩:=r8
 cases a <;> cases b <;> cases n <;> cases l <;> simp only[Bool.false_eq_true,if_false,if_true,false_implies,true_implies,and_true,true_and,hk,ho,reduceCtorEq]
 all_goals repeat' (first | exact .one (.yes (by simp_all)) | exact .one (.dec (by simp_all;try omega)) | exact .one (.no (by simp_all)) | refine .ite (λ_=>?_) (λ_=>?_))
end Go.R4
namespace Go.R4
open Go.Proofs Go.Ev
set_option maxRecDepth 100000
theorem ako{n a b:Int}{α:Type}{P:α->Prop}:Wp (λ_=>if n≥a then some (.inl (decide (n<=b)):Bool⊕α)else some (.inl false)) (aaJ (Tell (a<=n/\n<=b)) P):=
 .ite (λh=>.left (.dec (by omega))) (λh=>.left (.no (by omega)))
def onA(op:Int):Prop:=(2<=op/\op<=4)∨op=12∨op=13∨op=16∨op=18∨(32<=op/\op<=36)∨op=63∨op=64∨op=64521∨op=64523
theorem anG{op:Int}(h:onA op):shp (cls op)=⟨true,false,false,false⟩:=by
 unfold onA at h
 rcases abh op with h1 | h1 | h1 | h1 | h1 | h1 | h1 | h1 | h1 | h1 | h1 | h1 | h1 | h1 <;> first | (rw[h1.1];rfl) | (exfalso;omega) | (exfalso;have:=adY.1 h1.2;omega)
theorem anY(op:Int):Wp (λk=>ek.f k op) (λr=>shp (cls op)=⟨r.1,r.2.1,r.2.2.1,r.2.2.2⟩):=by
 refine .succ ?_
 simp only[ek.f]
 refine .bind (ahh _) (λr ha=>?_)
 obtain⟨r38,r39,r40⟩:=r
 dsimp only at ha ⊢
 refine .seg (Q:=Tell (onA op)) ?_ (λx hx=>.tif hx (λh=>.one (anG h)) (λhn=>?_))
 ·refine .bind (acU _) (λr hr=>.tif hr (λh=>.left (.yes (.inl h))) (λh1=>?_))
  refine .ite (λh=>.left (.yes (by unfold onA;omega))) (λh2=>.ite (λh=>.left (.yes (by unfold onA;omega))) (λh3=>.ite (λh=>.left (.yes (by unfold onA;omega))) (λh4=>.ite (λh=>.left (.yes (by unfold onA;omega))) (λh5=>?_))))
  refine .seg (Q:=Tell (32<=op/\op<=36)) ako (λx hx=>.tif hx (λh=>.left (.yes (by unfold onA;omega))) (λh6=>?_))
  refine .ite (λh=>.left (.yes (by unfold onA;omega))) (λh7=>.ite (λh=>.left (.yes (by unfold onA;omega))) (λh8=>.ite (λh=>.left (.yes (by unfold onA;omega))) (λh9=>.ite (λh=>.left (.yes (by unfold onA;omega))) (λh10=>.left (.no (by unfold onA;omega))))))
 refine .ite (λh=>.one (by rw[h];rfl)) (λh14=>?_)
 refine .ite (λh=>.one ?_) (λhacc=>?_)
 ·have h1:=ha.1 h
  have h2:=adY.1 h1
  have:cls op=1:=by unfold cls;rw[if_neg (by omega),if_pos h1]
  rw[this];rfl
 have hacc':¬acc op=true:=λq=>hacc (ha.2 q)
 refine .seg (Q:=Tell (op=64520∨op=64522)) or2 (λx hx=>.tif hx (λh=>.one ?_) (λh2=>?_))
 ·rcases h with h | h <;> rw[h] <;> rfl
 refine .bind (ajA _) (λr hr=>.ite (λh=>.one ?_) (λh=>.one ?_))
 ·have hc:=hr.1 h
  unfold onA at hn
  have:cls op=13:=by
   rcases abh op with h1 | h1 | h1 | h1 | h1 | h1 | h1 | h1 | h1 | h1 | h1 | h1 | h1 | h1 <;> first | exact h1.1 | (exfalso;omega) | exact(hacc' h1.2).elim
  rw[this];rfl
 ·have hc:op=65∨op=66∨op=68:=Classical.not_not.1 (λq=>h (hr.2 q))
  rcases hc with h | h | h <;> rw[h] <;> rfl
def mA(c:Nat):Int:=match c with
 | 0=>63 | 4=>64 | 6 | 7 | 8=>255 | 11=>15 |_=>3
theorem ak9(op:Int):Wp (λk=>dW.f k op) (· = mA (cls op)):=by
 refine .succ ?_
 simp only[dW.f]
 refine .bind (acU _) (λr hr=>.tif hr (λh=>.one ?_) (λh0=>?_))
 ·rw[show cls op=0 from by unfold cls;rw[if_pos h]];rfl
 refine .seg (Q:=Tell (op=12∨op=13)) or2 (λx hx=>.tif hx (λh=>.one (by rcases h with h | h <;> rw[h] <;> rfl)) (λh4=>?_))
 refine .seg (Q:=Tell (op=16∨op=18)) or2 (λx hx=>.tif hx (λh=>.one (by rcases h with h | h <;> rw[h] <;> rfl)) (λh6=>?_))
 refine .seg (Q:=Tell (32<=op/\op<=34)) ako (λx hx=>.tif hx (λh=>.one ?_) (λh7=>?_))
 ·have:op=32∨op=33∨op=34:=by omega
  rcases this with h | h | h <;> rw[h] <;> rfl
 refine .seg (Q:=Tell (op=35∨op=36)) or2 (λx hx=>.tif hx (λh=>.one (by rcases h with h | h <;> rw[h] <;> rfl)) (λh8=>?_))
 refine .ite (λh=>.one (by rw[h];rfl)) (λh11=>.one ?_)
 rcases abh op with h1 | h1 | h1 | h1 | h1 | h1 | h1 | h1 | h1 | h1 | h1 | h1 | h1 | h1 <;> first | (rw[h1.1];rfl) | (exfalso;omega)
theorem okA_iff(i:ag):okA i (cls i.Op) ↔
  ((shp (cls i.Op)).a=true->(if 2<=i.Op/\i.Op<=4 then -4 else 0)<=i.A/\i.A<=mA (cls i.Op))/\((shp (cls i.Op)).b=true->0<=i.B/\i.B<=(if i.Op=64520 then 15 else 3)) ∧
  ((shp (cls i.Op)).n=true->i.Op=66∨i.Op=68∨i.N<4294967296)/\((shp (cls i.Op)).l=true->(1<=i.L.length/\i.L.length<=17)/\∀ e∈i.L,0<=e/\e<=64):=by
 have e64:(∀ e∈i.L,0<=e/\e<65) ↔ ∀ e∈i.L,0<=e/\e<=64:=⟨λh e he=>⟨(h e he).1,by have:=(h e he).2;omega⟩,λh e he=>⟨(h e he).1,by have:=(h e he).2;omega⟩⟩
 rcases abh i.Op with h1 | h1 | h1 | h1 | h1 | h1 | h1 | h1 | h1 | h1 | h1 | h1 | h1 | h1
 all_goals simp only[h1.1,okA,shp,mA,true_implies,false_implies,Bool.false_eq_true,and_true,true_and,reduceCtorEq,e64]
 ·rw[if_pos h1.2];omega
 ·have:=adY.1 h1.2;rw[if_neg (by omega)];omega
 ·omega
 ·simp only[true_iff];omega
 ·rw[if_neg (by omega)];omega
 ·rw[if_neg (by omega)];omega
 ·rw[if_neg (by omega)];omega
 ·rw[if_neg (by omega)];omega
 ·rw[if_neg (by omega)];omega
 ·rw[if_neg (by omega),if_pos h1.2];omega
 ·rw[if_neg (by omega)];omega
 ·rw[if_neg (by omega),if_neg (by omega)];omega
end Go.R4
namespace Go.R4
open Go.Proofs Go.Ev
set_option maxRecDepth 100000
theorem aeu(i:ag)(hL:i.L.length<=4000000000000000000):Wp (λk=>bV.f k i) (Tell (ac3 i)):=by
 refine .succ ?_
 simp only[bV.f]
 refine .bind (ak4 _) (λr hk=>.nif hk (λhk=>.one (.no λq=>hk q.1)) (λhk=>?_))
 refine .bind (anY _) (λr hs=>?_)
 obtain⟨a,b,n,l⟩:=r
 dsimp only at hs ⊢
 have hI:ac3 i↔((a=true->(if 2<=i.Op/\i.Op<=4 then -4 else 0)<=i.A/\i.A<=mA (cls i.Op))/\(a=false->i.A=0))/\((b=true->0<=i.B/\i.B<=(if i.Op=64520 then 15 else 3))/\(b=false->i.B=0)) ∧
   ((n=true->i.Op=66∨i.Op=68∨i.N<4294967296)/\(n=false->i.N=0))/\((l=true->(1<=i.L.length/\i.L.length<=17)/\∀ e∈i.L,0<=e/\e<=64)/\(l=false->i.L.length=0)):=by
  unfold ac3
  rw[okA_iff,hs]
  dsimp only
  constructor
  ·rintro ⟨_,⟨h1,h2,h3,h4⟩,h5,h6,h7,h8⟩;exact⟨⟨h1,h5⟩,⟨h2,h6⟩,⟨h3,h7⟩,h4,h8⟩
  ·rintro ⟨⟨h1,h5⟩,⟨h2,h6⟩,⟨h3,h7⟩,h4,h8⟩;exact⟨hk,⟨h1,h2,h3,h4⟩,h5,h6,h7,h8⟩
 refine .seg (Q:=λ(x:Int)=>x=if 2<=i.Op/\i.Op<=4 then -4 else 0) ?_ (λx hx=>?_)
 ·refine .bind (acU _) (λr hr=>.tif hr (λh=>.left (by rw[if_pos h])) (λh=>.left (by rw[if_neg h])))
 rw[<-hx]at hI
 refine .seg (Q:=λ_=>(a=true->x<=i.A/\i.A<=mA (cls i.Op))/\(a=false->i.A=0)) ?_ (λ_ hA=>?_)
 ·cases a with
  | true=>
   simp only[if_true,Bool.not_true,Bool.false_eq_true,if_false]
   refine .ite (λh=>.right (.no λq=>?_)) (λh=>.bind (ak9 _) (λr hr=>.ite (λh2=>.right (.no λq=>?_)) (λh2=>.left ⟨λ_=>⟨by omega,by omega⟩,λq=>by cases q⟩)))
   ·have:=((hI.1 q).1.1 rfl).1;omega
   ·have:=((hI.1 q).1.1 rfl).2;omega
  | false=>
   simp only[Bool.false_eq_true,if_false,Bool.not_false,if_true]
   exact .ite (λh=>.left ⟨λq=>(by cases q),λ_=>h⟩) (λh=>.right (.no λq=>h ((hI.1 q).1.2 rfl)))
 refine .seg (Q:=λ(y:Int)=>y=if i.Op=64520 then 15 else 3) (.ite (λh=>.left (by rw[if_pos h])) (λh=>.left (by rw[if_neg h]))) (λy hy=>?_)
 rw[<-hy]at hI
 refine .seg (Q:=λ_=>(b=true->0<=i.B/\i.B<=y)/\(b=false->i.B=0)) ?_ (λ_ hB=>?_)
 ·cases b with
  | true=>
   simp only[if_true,Bool.not_true,Bool.false_eq_true,if_false]
   refine .bind (agx _ _) (λr hr=>.nif hr (λh=>.right (.no λq=>h ((hI.1 q).2.1.1 rfl))) (λh=>.left ⟨λ_=>h,λq=>by cases q⟩))
  | false=>
   simp only[Bool.false_eq_true,if_false,Bool.not_false,if_true]
   exact .ite (λh=>.left ⟨λq=>(by cases q),λ_=>h⟩) (λh=>.right (.no λq=>h ((hI.1 q).2.1.2 rfl)))
 refine .seg (Q:=λ_=>(n=true->i.Op=66∨i.Op=68∨i.N<4294967296)/\(n=false->i.N=0)) ?_ (λ_ hN=>?_)
 ·cases n with
  | true=>
   simp only[if_true,Bool.not_true,Bool.false_eq_true,if_false]
   refine .ite (λh=>.left ⟨λ_=>.inl h,λq=>by cases q⟩) (λh=>.ite (λh2=>.left ⟨λ_=>.inr (.inl h2),λq=>by cases q⟩) (λh2=>.ite (λh3=>.right (.no λq=>?_)) (λh3=>.left ⟨λ_=>by omega,λq=>by cases q⟩)))
   have:=(hI.1 q).2.2.1.1 rfl;omega
  | false=>
   simp only[Bool.false_eq_true,if_false,Bool.not_false,if_true]
   exact .ite (λh=>.left ⟨λq=>(by cases q),λ_=>h⟩) (λh=>.right (.no λq=>h ((hI.1 q).2.2.1.2 rfl)))
 cases l with
 | false=>
  simp only[Bool.not_false,if_true]
  exact .one (.dec ⟨λh=>hI.2 ⟨hA,hB,hN,λq=>(by cases q),λ_=>by omega⟩,λq=>by have:=(hI.1 q).2.2.2.2 rfl;omega⟩)
 | true=>
  simp only[Bool.not_true,Bool.false_eq_true,if_false]
  refine .alt (aaS (O:=Unit) i.L hL (λe=>0<=e/\e<=64) (λ_ _=>True) (λj e he hm=>aaM he (.bind (agx _ _) (λr hr=>.nif hr (λh=>.one (.off h)) (λh=>.one (.on h)))))) (λ_ hall=>?_) (λ_ hno=>.one (.no λq=>hno.1 ((hI.1 q).2.2.2.1 rfl).2))
  exact .ite (λh=>.one (.dec ⟨λh2=>hI.2 ⟨hA,hB,hN,λ_=>⟨⟨by omega,by omega⟩,hall⟩,λq=>by cases q⟩,λq=>by have:=((hI.1 q).2.2.2.1 rfl).1;omega⟩)) (λh=>.one (.no λq=>by have:=((hI.1 q).2.2.2.1 rfl).1;omega))
end Go.R4
