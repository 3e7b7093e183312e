import Derived.Test.YtganajogkdinaaaGreatGWrh
import Derived.Test.YtganajogkdinaaaGreatGPf
import Derived.Test.YtganajogkdinaaaGreatGOdd4P
set_option linter.all false
namespace Go.R4
open Go.Proofs Go.Ev Mo
set_option maxRecDepth 100000
theorem bN:bigN=140737488351232:=rfl
def ag.wf(x:ag):Prop:=inR .i64 x.Op/\inR .i64 x.A/\inR .i64 x.B/\inR .u64 x.N/\x.L.length*8<=bigN/\(∀ y∈x.L,inR .i64 y)
theorem ag.dec{n:Nat}{cs:List FV}(h:Fits Tryz.prog (n+4) 43 cs):∃ x:ag,cs=x.e/\x.wf:=by
 obtain⟨parts,rfl,hl,hp⟩:=Fits.struct (n:=n+3) Tryz.underlying43 h
 match parts,hl with
 | [p0,p1,p2,p3,p4],_=>
  have h0:=hp 0 _ p0 rfl rfl
  obtain⟨x0,rfl,w0⟩:=Fits.int (n:=n+2) Tryz.underlying3 h0
  have h1:=hp 1 _ p1 rfl rfl
  obtain⟨x1,rfl,w1⟩:=Fits.int (n:=n+2) Tryz.underlying3 h1
  have h2:=hp 2 _ p2 rfl rfl
  obtain⟨x2,rfl,w2⟩:=Fits.int (n:=n+2) Tryz.underlying3 h2
  have h3:=hp 3 _ p3 rfl rfl
  obtain⟨x3,rfl,w3⟩:=Fits.int (n:=n+2) Tryz.underlying41 h3
  have h4:=hp 4 _ p4 rfl rfl
  obtain⟨x4,rfl,z4,w4⟩:=(Fits.slice (n:=n+2) (sz:=1) (by_:=8) Tryz.underlying22 (by kernel_rfl) (by kernel_rfl) (λ_ h=>Fits.int Tryz.underlying3 h)) h4
  exact⟨⟨x0,x1,x2,x3,x4⟩,rfl,w0,w1,w2,w3,z4,w4⟩
def eE.wf(x:eE):Prop:=inR .i64 x.What/\inR .i64 x.At/\inR .i64 x.To/\inR .u64 x.N/\ag.wf x.Raw
theorem eE.dec{n:Nat}{cs:List FV}(h:Fits Tryz.prog (n+8) 152 cs):∃ x:eE,cs=x.e/\x.wf:=by
 obtain⟨parts,rfl,hl,hp⟩:=Fits.struct (n:=n+7) Tryz.underlying152 h
 match parts,hl with
 | [p0,p1,p2,p3,p4],_=>
  have h0:=hp 0 _ p0 rfl rfl
  obtain⟨x0,rfl,w0⟩:=Fits.int (n:=n+6) Tryz.underlying3 h0
  have h1:=hp 1 _ p1 rfl rfl
  obtain⟨x1,rfl,w1⟩:=Fits.int (n:=n+6) Tryz.underlying3 h1
  have h2:=hp 2 _ p2 rfl rfl
  obtain⟨x2,rfl,w2⟩:=Fits.int (n:=n+6) Tryz.underlying3 h2
  have h3:=hp 3 _ p3 rfl rfl
  obtain⟨x3,rfl,w3⟩:=Fits.int (n:=n+6) Tryz.underlying41 h3
  have h4:=hp 4 _ p4 rfl rfl
  obtain⟨x4,rfl,w4⟩:=ag.dec h4
  exact⟨⟨x0,x1,x2,x3,x4⟩,rfl,w0,w1,w2,w3,w4⟩
def af.wf(x:af):Prop:=x.Params.length*8<=bigN/\(∀ y∈x.Params,inR .i64 y)/\x.Results.length*8<=bigN/\(∀ y∈x.Results,inR .i64 y)
theorem af.dec{n:Nat}{cs:List FV}(h:Fits Tryz.prog (n+4) 37 cs):∃ x:af,cs=x.e/\x.wf:=by
 obtain⟨parts,rfl,hl,hp⟩:=Fits.struct (n:=n+3) Tryz.underlying37 h
 match parts,hl with
 | [p0,p1],_=>
  have h0:=hp 0 _ p0 rfl rfl
  obtain⟨x0,rfl,z0,w0⟩:=(Fits.slice (n:=n+2) (sz:=1) (by_:=8) Tryz.underlying22 (by kernel_rfl) (by kernel_rfl) (λ_ h=>Fits.int Tryz.underlying3 h)) h0
  have h1:=hp 1 _ p1 rfl rfl
  obtain⟨x1,rfl,z1,w1⟩:=(Fits.slice (n:=n+2) (sz:=1) (by_:=8) Tryz.underlying22 (by kernel_rfl) (by kernel_rfl) (λ_ h=>Fits.int Tryz.underlying3 h)) h1
  exact⟨⟨x0,x1⟩,rfl,z0,w0,z1,w1⟩
def ak.wf(x:ak):Prop:=x.Module.size<=bigN/\x.Name.size<=bigN/\inR .i64 x.fType
theorem ak.dec{n:Nat}{cs:List FV}(h:Fits Tryz.prog (n+4) 55 cs):∃ x:ak,cs=x.e/\x.wf:=by
 obtain⟨parts,rfl,hl,hp⟩:=Fits.struct (n:=n+3) Tryz.underlying55 h
 match parts,hl with
 | [p0,p1,p2],_=>
  have h0:=hp 0 _ p0 rfl rfl
  obtain⟨x0,rfl,w0⟩:=Fits.str (n:=n+2) Tryz.underlying9 h0
  have h1:=hp 1 _ p1 rfl rfl
  obtain⟨x1,rfl,w1⟩:=Fits.str (n:=n+2) Tryz.underlying9 h1
  have h2:=hp 2 _ p2 rfl rfl
  obtain⟨x2,rfl,w2⟩:=Fits.int (n:=n+2) Tryz.underlying3 h2
  exact⟨⟨x0,x1,x2⟩,rfl,w0,w1,w2⟩
def aj.wf(x:aj):Prop:=inR .i64 x.fType/\x.Locals.length*8<=bigN/\(∀ y∈x.Locals,inR .i64 y)/\x.Code.length*56<=bigN/\(∀ y∈x.Code,ag.wf y)
theorem aj.dec{n:Nat}{cs:List FV}(h:Fits Tryz.prog (n+6) 40 cs):∃ x:aj,cs=x.e/\x.wf:=by
 obtain⟨parts,rfl,hl,hp⟩:=Fits.struct (n:=n+5) Tryz.underlying40 h
 match parts,hl with
 | [p0,p1,p2],_=>
  have h0:=hp 0 _ p0 rfl rfl
  obtain⟨x0,rfl,w0⟩:=Fits.int (n:=n+4) Tryz.underlying3 h0
  have h1:=hp 1 _ p1 rfl rfl
  obtain⟨x1,rfl,z1,w1⟩:=(Fits.slice (n:=n+4) (sz:=1) (by_:=8) Tryz.underlying22 (by kernel_rfl) (by kernel_rfl) (λ_ h=>Fits.int Tryz.underlying3 h)) h1
  have h2:=hp 2 _ p2 rfl rfl
  obtain⟨x2,rfl,z2,w2⟩:=(Fits.slice (n:=n+4) (sz:=5) (by_:=56) Tryz.underlying38 (by kernel_rfl) (by kernel_rfl) (λ_ h=>ag.dec h)) h2
  exact⟨⟨x0,x1,x2⟩,rfl,w0,z1,w1,z2,w2⟩
def ap.wf(x:ap):Prop:=inR .i64 x.Min/\inR .i64 x.Max
theorem ap.dec{n:Nat}{cs:List FV}(h:Fits Tryz.prog (n+4) 60 cs):∃ x:ap,cs=x.e/\x.wf:=by
 obtain⟨parts,rfl,hl,hp⟩:=Fits.struct (n:=n+3) Tryz.underlying60 h
 match parts,hl with
 | [p0,p1],_=>
  have h0:=hp 0 _ p0 rfl rfl
  obtain⟨x0,rfl,w0⟩:=Fits.int (n:=n+2) Tryz.underlying3 h0
  have h1:=hp 1 _ p1 rfl rfl
  obtain⟨x1,rfl,w1⟩:=Fits.int (n:=n+2) Tryz.underlying3 h1
  exact⟨⟨x0,x1⟩,rfl,w0,w1⟩
def ah.wf(x:ah):Prop:=inR .i64 x.fType/\inR .u64 x.Init
theorem ah.dec{n:Nat}{cs:List FV}(h:Fits Tryz.prog (n+4) 48 cs):∃ x:ah,cs=x.e/\x.wf:=by
 obtain⟨parts,rfl,hl,hp⟩:=Fits.struct (n:=n+3) Tryz.underlying48 h
 match parts,hl with
 | [p0,p1,p2],_=>
  have h0:=hp 0 _ p0 rfl rfl
  obtain⟨x0,rfl,w0⟩:=Fits.int (n:=n+2) Tryz.underlying3 h0
  have h1:=hp 1 _ p1 rfl rfl
  obtain⟨x1,rfl⟩:=Fits.bool (n:=n+2) Tryz.underlying4 h1
  have h2:=hp 2 _ p2 rfl rfl
  obtain⟨x2,rfl,w2⟩:=Fits.int (n:=n+2) Tryz.underlying41 h2
  exact⟨⟨x0,x1,x2⟩,rfl,w0,w2⟩
def ab.wf(x:ab):Prop:=x.Name.size<=bigN/\inR .i64 x.Kind/\inR .i64 x.Index
theorem ab.dec{n:Nat}{cs:List FV}(h:Fits Tryz.prog (n+4) 62 cs):∃ x:ab,cs=x.e/\x.wf:=by
 obtain⟨parts,rfl,hl,hp⟩:=Fits.struct (n:=n+3) Tryz.underlying62 h
 match parts,hl with
 | [p0,p1,p2],_=>
  have h0:=hp 0 _ p0 rfl rfl
  obtain⟨x0,rfl,w0⟩:=Fits.str (n:=n+2) Tryz.underlying9 h0
  have h1:=hp 1 _ p1 rfl rfl
  obtain⟨x1,rfl,w1⟩:=Fits.int (n:=n+2) Tryz.underlying3 h1
  have h2:=hp 2 _ p2 rfl rfl
  obtain⟨x2,rfl,w2⟩:=Fits.int (n:=n+2) Tryz.underlying3 h2
  exact⟨⟨x0,x1,x2⟩,rfl,w0,w1,w2⟩
def aw.wf(x:aw):Prop:=inR .i64 x.Mem/\inR .i64 x.At/\x.Bytes.length*1<=bigN/\(∀ y∈x.Bytes,inR .u8 y)
theorem aw.dec{n:Nat}{cs:List FV}(h:Fits Tryz.prog (n+4) 46 cs):∃ x:aw,cs=x.e/\x.wf:=by
 obtain⟨parts,rfl,hl,hp⟩:=Fits.struct (n:=n+3) Tryz.underlying46 h
 match parts,hl with
 | [p0,p1,p2,p3],_=>
  have h0:=hp 0 _ p0 rfl rfl
  obtain⟨x0,rfl⟩:=Fits.bool (n:=n+2) Tryz.underlying4 h0
  have h1:=hp 1 _ p1 rfl rfl
  obtain⟨x1,rfl,w1⟩:=Fits.int (n:=n+2) Tryz.underlying3 h1
  have h2:=hp 2 _ p2 rfl rfl
  obtain⟨x2,rfl,w2⟩:=Fits.int (n:=n+2) Tryz.underlying3 h2
  have h3:=hp 3 _ p3 rfl rfl
  obtain⟨x3,rfl,z3,w3⟩:=(Fits.slice (n:=n+2) (sz:=1) (by_:=1) Tryz.underlying44 (by kernel_rfl) (by kernel_rfl) (λ_ h=>Fits.int Tryz.underlying5 h)) h3
  exact⟨⟨x0,x1,x2,x3⟩,rfl,w1,w2,z3,w3⟩
def ay.wf(x:ay):Prop:=x.Name.size<=bigN/\x.Bytes.length*1<=bigN/\(∀ y∈x.Bytes,inR .u8 y)
theorem ay.dec{n:Nat}{cs:List FV}(h:Fits Tryz.prog (n+4) 64 cs):∃ x:ay,cs=x.e/\x.wf:=by
 obtain⟨parts,rfl,hl,hp⟩:=Fits.struct (n:=n+3) Tryz.underlying64 h
 match parts,hl with
 | [p0,p1],_=>
  have h0:=hp 0 _ p0 rfl rfl
  obtain⟨x0,rfl,w0⟩:=Fits.str (n:=n+2) Tryz.underlying9 h0
  have h1:=hp 1 _ p1 rfl rfl
  obtain⟨x1,rfl,z1,w1⟩:=(Fits.slice (n:=n+2) (sz:=1) (by_:=1) Tryz.underlying44 (by kernel_rfl) (by kernel_rfl) (λ_ h=>Fits.int Tryz.underlying5 h)) h1
  exact⟨⟨x0,x1⟩,rfl,w0,z1,w1⟩
def am.wf(x:am):Prop:=x.Types.length*48<=bigN/\(∀ y∈x.Types,af.wf y)/\x.Imports.length*40<=bigN/\(∀ y∈x.Imports,ak.wf y)/\x.Funcs.length*56<=bigN/\(∀ y∈x.Funcs,aj.wf y)/\x.Mems.length*16<=bigN/\(∀ y∈x.Mems,ap.wf y)/\x.Globals.length*24<=bigN/\(∀ y∈x.Globals,ah.wf y)/\x.Exports.length*32<=bigN/\(∀ y∈x.Exports,ab.wf y)/\x.Datas.length*48<=bigN/\(∀ y∈x.Datas,aw.wf y)/\x.Customs.length*40<=bigN/\(∀ y∈x.Customs,ay.wf y)
theorem am.dec{n:Nat}{cs:List FV}(h:Fits Tryz.prog (n+8) 32 cs):∃ x:am,cs=x.e/\x.wf:=by
 obtain⟨parts,rfl,hl,hp⟩:=Fits.struct (n:=n+7) Tryz.underlying32 h
 match parts,hl with
 | [p0,p1,p2,p3,p4,p5,p6,p7],_=>
  have h0:=hp 0 _ p0 rfl rfl
  obtain⟨x0,rfl,z0,w0⟩:=(Fits.slice (n:=n+6) (sz:=2) (by_:=48) Tryz.underlying23 (by kernel_rfl) (by kernel_rfl) (λ_ h=>af.dec h)) h0
  have h1:=hp 1 _ p1 rfl rfl
  obtain⟨x1,rfl,z1,w1⟩:=(Fits.slice (n:=n+6) (sz:=3) (by_:=40) Tryz.underlying24 (by kernel_rfl) (by kernel_rfl) (λ_ h=>ak.dec h)) h1
  have h2:=hp 2 _ p2 rfl rfl
  obtain⟨x2,rfl,z2,w2⟩:=(Fits.slice (n:=n+6) (sz:=3) (by_:=56) Tryz.underlying25 (by kernel_rfl) (by kernel_rfl) (λ_ h=>aj.dec h)) h2
  have h3:=hp 3 _ p3 rfl rfl
  obtain⟨x3,rfl,z3,w3⟩:=(Fits.slice (n:=n+6) (sz:=2) (by_:=16) Tryz.underlying26 (by kernel_rfl) (by kernel_rfl) (λ_ h=>ap.dec h)) h3
  have h4:=hp 4 _ p4 rfl rfl
  obtain⟨x4,rfl,z4,w4⟩:=(Fits.slice (n:=n+6) (sz:=3) (by_:=24) Tryz.underlying27 (by kernel_rfl) (by kernel_rfl) (λ_ h=>ah.dec h)) h4
  have h5:=hp 5 _ p5 rfl rfl
  obtain⟨x5,rfl,z5,w5⟩:=(Fits.slice (n:=n+6) (sz:=3) (by_:=32) Tryz.underlying28 (by kernel_rfl) (by kernel_rfl) (λ_ h=>ab.dec h)) h5
  have h6:=hp 6 _ p6 rfl rfl
  obtain⟨x6,rfl,z6,w6⟩:=(Fits.slice (n:=n+6) (sz:=4) (by_:=48) Tryz.underlying29 (by kernel_rfl) (by kernel_rfl) (λ_ h=>aw.dec h)) h6
  have h7:=hp 7 _ p7 rfl rfl
  obtain⟨x7,rfl,z7,w7⟩:=(Fits.slice (n:=n+6) (sz:=2) (by_:=40) Tryz.underlying30 (by kernel_rfl) (by kernel_rfl) (λ_ h=>ay.dec h)) h7
  exact⟨⟨x0,x1,x2,x3,x4,x5,x6,x7⟩,rfl,z0,w0,z1,w1,z2,w2,z3,w3,z4,w4,z5,w5,z6,w6,z7,w7⟩
theorem anf{n:Nat}{m:am}(h:OddOk n m)(hn:n<=100)(hX:OddX m):Fit m:=by
 have hb:=bN
 obtain⟨t,i,f,me,g,e,d,c,fs⟩:=h
 refine⟨by omega,by omega,by omega,by omega,by omega,by omega,by omega,by omega,λx hx=>?_,λx hx=>⟨?_,?_,λy hy=>?_⟩⟩
 ·have:=hX.t x hx;exact⟨by omega,by omega⟩
 ·have:=fs x hx;omega
 ·have:=fs x hx;omega
 ·have:=(hX.f x hx y hy).1;omega
theorem apl{m:am}(h:m.wf):Fit m:=by
 have hb:=bN
 obtain⟨a1,a2,b1,b2,c1,c2,d1,d2,e1,e2,f1,f2,g1,g2,h1,h2⟩:=h
 refine⟨by omega,by omega,by omega,by omega,by omega,by omega,by omega,by omega,λx hx=>?_,λx hx=>?_⟩
 ·obtain⟨q1,-,q2,-⟩:=a2 x hx;exact⟨by omega,by omega⟩
 ·obtain⟨-,q1,-,q2,q3⟩:=c2 x hx
  exact⟨by omega,by omega,λy hy=>by obtain⟨-,-,-,-,q,-⟩:=q3 y hy;omega⟩
theorem amP{m:am}(hX:OddX m):Wr.NumM m:=⟨λg hg=>hX.g g hg,λf hf i hi=>(hX.f f hf i hi).2⟩
theorem ahR{n:Int}(h:inR .u64 n):NB n:=⟨h.1,by have:=h.2;omega⟩
theorem apg{m:am}(h:m.wf):Wr.NumM m:=by
 obtain⟨a1,a2,b1,b2,c1,c2,d1,d2,e1,e2,f1,f2,g1,g2,h1,h2⟩:=h
 refine⟨λg hg=>?_,λf hf i hi=>?_⟩
 ·exact ahR (e2 g hg).2
 ·obtain⟨-,-,-,-,q⟩:=c2 f hf
  exact ahR (q i hi).2.2.2.1
theorem apz(j:Nat):dV.f (j+60)=some true:=by kernel_rfl
theorem aki:Wp (λk=>dV.f k) (· = true):=by
 refine .at_ 60 (λk hk=>?_) rfl
 obtain⟨k,rfl⟩:∃ j,k=j+60:=⟨k-60,by omega⟩
 exact apz k
theorem aov{t:eE}(h:t.wf):LB t.Raw/\NB t.N:=by
 obtain⟨-,-,-,n,-,-,-,q,z,-⟩:=h
 exact⟨⟨z,ahR q⟩,ahR n⟩
theorem WriteTells{l:List Int}{odd:List eE}{raw:am}(z0:l.length*8<=bigN)(w0:∀ y∈l,inR .i64 y)(z1:odd.length*88<=bigN)(w1:∀ y∈odd,eE.wf y)(w2:raw.wf):∃ k,law8_WriteTells.f k l odd raw=some true:=by
 have hb:=bN
 refine Wp.fuel (.succ ?_)
 simp only[law8_WriteTells.f]
 refine .bind (aj0 (by omega)) (λr hr=>?_)
 obtain⟨T,I,G,D,F,M,E⟩:=r
 dsimp only at hr ⊢
 have o1:=akg hr
 have x1:=ait hr
 refine .bind (Wr.same_wp (anf o1 (by omega) x1) (amP x1)) (λr hr=>.pos hr ?_)
 refine .bind (apv o1 x1 (λt ht=>aov (w1 t ht)) (by omega)) (λm hm=>?_)
 refine .bind (Wr.same_wp (anf hm.1 (by omega) hm.2) (amP hm.2)) (λr hr=>.pos hr ?_)
 refine .bind (Wr.same_wp (apl w2) (apg w2)) (λr hr=>.pos hr ?_)
 exact .bind aki (λr hr=>.one hr)
end Go.R4
