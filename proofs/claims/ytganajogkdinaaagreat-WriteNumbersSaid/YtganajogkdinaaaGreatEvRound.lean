import Derived.Test.YtganajogkdinaaaGreatEvCore
import Derived.OrdersIn
import Derived.TacticsIn
import Derived.RangeFuncIn
import Derived.RangeFuncLeaves
set_option linter.all false
namespace Go.Ev
variable{P:Program}{r:Option Nat}{n:Nat}
abbrev WF(r:Option Nat):Fence:={ Fence.wide with round:=r }
def Nd(o:Oper):Prop:=∀ c,o.op ≠ .defer c
theorem amc{f:FuncId}{args:Array Value}{w:World}{R:Ending->World->Prop}(h:Calls P f args w R):CallsIn (WF r) n P f args w R:=(callsIn_wide (n:=n)).2 h
theorem aoz{row:String}{args:Array Value}{w:World}{R:Value->World->Prop}(h:Rows P row args w R):RowsIn (WF r) n P row args w R:=
 λc cs _=>let⟨v,w',q,s⟩:=h c cs;⟨v,w',q,stepsIn_wide.2 s⟩
theorem ajC{f:FuncId}{args:Array Value}{w:World}{R:Ending->World->Prop}(h:CallsIn (WF none) n P f args w R):Calls P f args w R:=(callsIn_wide (n:=n)).1 h
def Tame(Q:Exit->Act->World->Prop):Exit->Act->World->Prop:=λe a w=>Q e a w/\e ≠ .outgrown
theorem aeY{Q:Exit->Act->World->Prop}:¬LetsOut (Tame Q):=λ⟨_,_,h⟩=>h.2 rfl
theorem aoA{o:Oper}{a:Act}{K K':Act->World->Prop}{Q:Exit->Act->World->Prop}(hk:∀ a w,K a w->K' a w){x:Result Next}(h:o.upon P a K (Tame Q) x):o.uponIn (WF r) n P a K' Q x:=by
 cases x with
 | ok y w'=>
  cases y with
  | enter f args=>
   simp only[Oper.upon]at h
   refine⟨(λhd=>by cases hd),CallsIn.mono (amc h) ?_⟩
   rintro e w2 he
   cases e with
   | returned v=>exact hk _ _ he
   | panicked ch=>exact he.1
   | outgrown=>exact(aeY he).elim
  | row row args=>
   simp only[Oper.upon]at h
   exact⟨(λhd=>by cases hd),RowsIn.mono (aoz h) λ_ _ he=>hk _ _ he⟩
  |_=>first | exact hk _ _ h | exact h.elim
 | halt y w'=>
  cases y with
  | panic v=>exact h.1
  |_=>exact h.elim
theorem ajw{o:Oper}(hd:r=none∨Nd o){a:Act}{w:World}{K K':Act->World->Prop}{Q:Exit->Act->World->Prop}(hk:∀ a w,K a w->K' a w)(h:o.wp P a w K (Tame Q)):o.wpIn (WF r) n P a w K' Q:=by
 refine⟨λ_ _=>trivial,?_⟩
 have e:Oper.semAt (WF r).round a.eval o=execOp a.eval o:=by
  rcases hd with rfl | hd
  ·rfl
  ·exact Oper.semAt_eq _ _ _ hd
 rw[e]
 exact aoA hk h
theorem agX{ops:Array Oper}{Q:Exit->Act->World->Prop}:∀ {l:List Oper}{a:Act}{w:World},(r=none ∨ ∀ o∈l,Nd o)->wpList P ops (Tame Q) l a w->wpListIn (WF r) n P ops Q l a w
 | [],a,w,_,h=>h.1
 | o::l,a,w,hd,h=>by
  have hd':r=none ∨ ∀ o∈l,Nd o:=hd.imp id λh x hx=>h x (List.mem_cons_of_mem _ hx)
  unfold wpList at h
  unfold wpListIn
  split
  ·rename_i hw
   rw[if_pos hw]at h
   rcases h with h | h
   ·exact ajw (hd.imp id λh=>h o (List.mem_cons_self ..)) (λa w h=>agX hd' h) h
   ·exact(aeY h.2).elim
  ·rename_i hw
   rw[if_neg hw]at h
   exact⟨λ_ _=>trivial,agX hd' h⟩
theorem ahM{ops:Array Oper}{md:Region.Mode}{Q:Exit->Act->World->Prop}(hd:r=none ∨ ∀ o∈ops,Nd o):∀ {fuel:Nat}{listed:Array Bool}{a:Act}{w:World},wpAny P md ops (Tame Q) fuel listed a w->wpAnyIn (WF r) n P md ops Q fuel listed a w
 | 0,listed,a,w,h=>⟨h.1,h.2.1⟩
 | fuel+1,listed,a,w,h=>by
  refine⟨λhr=>(h.1 hr).1,λi hi=>?_⟩
  have h:=h.2 i hi
  unfold wpOp at h
  unfold wpOpIn
  split
  ·rename_i ho
   simp only[ho]at h
   exact ahM hd h
  ·rename_i o ho
   simp only[ho]at h
   split
   ·rename_i hw
    rw[if_pos hw]at h
    rcases h with h | h
    ·exact ajw (hd.imp id λh=>h o (Array.mem_of_getElem? ho)) (λa w h=>ahM hd h) h
    ·exact(aeY h.2).elim
   ·rename_i hw
    rw[if_neg hw]at h
    exact⟨λ_ _=>trivial,ahM hd h⟩
theorem am2{o:Oper}(h:ndO o=true):Nd o:=by
 intro c hc
 unfold ndO at h
 rw[hc]at h;cases h
theorem aiL{id:Nat}{ops:Array Oper}{Q:Exit->Act->World->Prop}{a:Act}{w:World}(hd:r=none∨ndC (.region id ops false)=true)(h:wpList P ops (Tame Q) ops.toList a w):(Code.region id ops false).wpIn (WF r) n P Q a w:=by
 refine wpIn_region_list (agX (hd.imp (λh=>h) λh o ho=>am2 ?_) h)
 simp only[ndC,List.all_eq_true]at h
 exact h o ho
theorem aoc(hm:P.follows .mixedOrders=true){id:Nat}{ops:Array Oper}{Q:Exit->Act->World->Prop}{a:Act}{w:World}(hd:r=none∨ndC (.region id ops true)=true)
  (h:wpAny P .any ops (Tame Q) ops.size (Array.replicate ops.size false) a { w with drawn:=w.drawn+1 }):(Code.region id ops true).wpIn (WF r) n P Q a w:=by
 refine wpIn_region_any hm (ahM (hd.imp (λh=>h) λh o ho=>am2 ?_) h)
 simp only[ndC,List.all_eq_true]at h
 exact h o (by simpa using ho)
end Go.Ev
