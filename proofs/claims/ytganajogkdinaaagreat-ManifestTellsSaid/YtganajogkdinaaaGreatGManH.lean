import Derived.Test.YtganajogkdinaaaGreatGManG
import Derived.Test.YtganajogkdinaaaGreatEvIn
set_option linter.all false
namespace Go.R4
open Go.Proofs Go.Ev
set_option maxRecDepth 100000
def aF.wf(x:aF):Prop:=x.Slots.length*8<=bigN/\(∀ y∈x.Slots,inR .i64 y)/\x.Base.length*8<=bigN/\(∀ y∈x.Base,inR .i64 y)/\x.Size.length*8<=bigN/\(∀ y∈x.Size,inR .i64 y)/\x.Grow.length*8<=bigN/\(∀ y∈x.Grow,inR .i64 y)/\x.Types.length*8<=bigN/\(∀ y∈x.Types,inR .i64 y)/\x.Names.length*16<=bigN/\(∀ y∈x.Names,y.size<=bigN)/\inR .i64 x.Extra/\inR .i64 x.Mems/\inR .i64 x.Globals/\inR .i64 x.Index
theorem aF.dec{n:Nat}{cs:List FV}(h:Fits Tryz.prog (n+8) 81 cs):∃ x:aF,cs=x.e/\x.wf:=by
 obtain⟨parts,rfl,hl,hp⟩:=Fits.struct (n:=n+7) Tryz.underlying81 h
 match parts,hl with
 | [p0,p1,p2,p3,p4,p5,p6,p7,p8,p9],_=>
  have h0:=hp 0 _ p0 rfl rfl
  obtain⟨x0,rfl,z0,w0⟩:=(Fits.slice (n:=n+6) (sz:=1) (by_:=8) Tryz.underlying22 (by kernel_rfl) (by kernel_rfl) (λ_ h=>Fits.int Tryz.underlying3 h)) h0
  have h1:=hp 1 _ p1 rfl rfl
  obtain⟨x1,rfl,z1,w1⟩:=(Fits.slice (n:=n+6) (sz:=1) (by_:=8) Tryz.underlying22 (by kernel_rfl) (by kernel_rfl) (λ_ h=>Fits.int Tryz.underlying3 h)) h1
  have h2:=hp 2 _ p2 rfl rfl
  obtain⟨x2,rfl,z2,w2⟩:=(Fits.slice (n:=n+6) (sz:=1) (by_:=8) Tryz.underlying22 (by kernel_rfl) (by kernel_rfl) (λ_ h=>Fits.int Tryz.underlying3 h)) h2
  have h3:=hp 3 _ p3 rfl rfl
  obtain⟨x3,rfl,z3,w3⟩:=(Fits.slice (n:=n+6) (sz:=1) (by_:=8) Tryz.underlying22 (by kernel_rfl) (by kernel_rfl) (λ_ h=>Fits.int Tryz.underlying3 h)) h3
  have h4:=hp 4 _ p4 rfl rfl
  obtain⟨x4,rfl,z4,w4⟩:=(Fits.slice (n:=n+6) (sz:=1) (by_:=8) Tryz.underlying22 (by kernel_rfl) (by kernel_rfl) (λ_ h=>Fits.int Tryz.underlying3 h)) h4
  have h5:=hp 5 _ p5 rfl rfl
  obtain⟨x5,rfl,z5,w5⟩:=(Fits.slice (n:=n+6) (sz:=1) (by_:=16) Tryz.underlying79 (by kernel_rfl) (by kernel_rfl) (λ_ h=>Fits.str Tryz.underlying9 h)) h5
  have h6:=hp 6 _ p6 rfl rfl
  obtain⟨x6,rfl,w6⟩:=Fits.int (n:=n+6) Tryz.underlying3 h6
  have h7:=hp 7 _ p7 rfl rfl
  obtain⟨x7,rfl,w7⟩:=Fits.int (n:=n+6) Tryz.underlying3 h7
  have h8:=hp 8 _ p8 rfl rfl
  obtain⟨x8,rfl,w8⟩:=Fits.int (n:=n+6) Tryz.underlying3 h8
  have h9:=hp 9 _ p9 rfl rfl
  obtain⟨x9,rfl,w9⟩:=Fits.int (n:=n+6) Tryz.underlying3 h9
  exact⟨⟨x0,x1,x2,x3,x4,x5,x6,x7,x8,x9⟩,rfl,z0,w0,z1,w1,z2,w2,z3,w3,z4,w4,z5,w5,w6,w7,w8,w9⟩
def ab.wf(x:ab):Prop:=x.Params.length*8<=bigN/\(∀ y∈x.Params,inR .i64 y)/\x.Results.length*8<=bigN/\(∀ y∈x.Results,inR .i64 y)
theorem ab.dec{n:Nat}{cs:List FV}(h:Fits Tryz.prog (n+4) 37 cs):∃ x:ab,cs=x.e/\x.wf:=by
 obtain⟨parts,rfl,hl,hp⟩:=Fits.struct (n:=n+3) Tryz.underlying37 h
 match parts,hl with
 | [p0,p1],_=>
  have h0:=hp 0 _ p0 rfl rfl
  obtain⟨x0,rfl,z0,w0⟩:=(Fits.slice (n:=n+2) (sz:=1) (by_:=8) Tryz.underlying22 (by kernel_rfl) (by kernel_rfl) (λ_ h=>Fits.int Tryz.underlying3 h)) h0
  have h1:=hp 1 _ p1 rfl rfl
  obtain⟨x1,rfl,z1,w1⟩:=(Fits.slice (n:=n+2) (sz:=1) (by_:=8) Tryz.underlying22 (by kernel_rfl) (by kernel_rfl) (λ_ h=>Fits.int Tryz.underlying3 h)) h1
  exact⟨⟨x0,x1⟩,rfl,z0,w0,z1,w1⟩
def ag.wf(x:ag):Prop:=x.Module.size<=bigN/\x.Name.size<=bigN/\inR .i64 x.fType
theorem ag.dec{n:Nat}{cs:List FV}(h:Fits Tryz.prog (n+4) 55 cs):∃ x:ag,cs=x.e/\x.wf:=by
 obtain⟨parts,rfl,hl,hp⟩:=Fits.struct (n:=n+3) Tryz.underlying55 h
 match parts,hl with
 | [p0,p1,p2],_=>
  have h0:=hp 0 _ p0 rfl rfl
  obtain⟨x0,rfl,w0⟩:=Fits.str (n:=n+2) Tryz.underlying9 h0
  have h1:=hp 1 _ p1 rfl rfl
  obtain⟨x1,rfl,w1⟩:=Fits.str (n:=n+2) Tryz.underlying9 h1
  have h2:=hp 2 _ p2 rfl rfl
  obtain⟨x2,rfl,w2⟩:=Fits.int (n:=n+2) Tryz.underlying3 h2
  exact⟨⟨x0,x1,x2⟩,rfl,w0,w1,w2⟩
def aj.wf(x:aj):Prop:=inR .i64 x.Op/\inR .i64 x.A/\inR .i64 x.B/\inR .u64 x.N/\x.L.length*8<=bigN/\(∀ y∈x.L,inR .i64 y)
theorem aj.dec{n:Nat}{cs:List FV}(h:Fits Tryz.prog (n+4) 43 cs):∃ x:aj,cs=x.e/\x.wf:=by
 obtain⟨parts,rfl,hl,hp⟩:=Fits.struct (n:=n+3) Tryz.underlying43 h
 match parts,hl with
 | [p0,p1,p2,p3,p4],_=>
  have h0:=hp 0 _ p0 rfl rfl
  obtain⟨x0,rfl,w0⟩:=Fits.int (n:=n+2) Tryz.underlying3 h0
  have h1:=hp 1 _ p1 rfl rfl
  obtain⟨x1,rfl,w1⟩:=Fits.int (n:=n+2) Tryz.underlying3 h1
  have h2:=hp 2 _ p2 rfl rfl
  obtain⟨x2,rfl,w2⟩:=Fits.int (n:=n+2) Tryz.underlying3 h2
  have h3:=hp 3 _ p3 rfl rfl
  obtain⟨x3,rfl,w3⟩:=Fits.int (n:=n+2) Tryz.underlying41 h3
  have h4:=hp 4 _ p4 rfl rfl
  obtain⟨x4,rfl,z4,w4⟩:=(Fits.slice (n:=n+2) (sz:=1) (by_:=8) Tryz.underlying22 (by kernel_rfl) (by kernel_rfl) (λ_ h=>Fits.int Tryz.underlying3 h)) h4
  exact⟨⟨x0,x1,x2,x3,x4⟩,rfl,w0,w1,w2,w3,z4,w4⟩
def ai.wf(x:ai):Prop:=inR .i64 x.fType/\x.Locals.length*8<=bigN/\(∀ y∈x.Locals,inR .i64 y)/\x.Code.length*56<=bigN/\(∀ y∈x.Code,aj.wf y)
theorem ai.dec{n:Nat}{cs:List FV}(h:Fits Tryz.prog (n+6) 40 cs):∃ x:ai,cs=x.e/\x.wf:=by
 obtain⟨parts,rfl,hl,hp⟩:=Fits.struct (n:=n+5) Tryz.underlying40 h
 match parts,hl with
 | [p0,p1,p2],_=>
  have h0:=hp 0 _ p0 rfl rfl
  obtain⟨x0,rfl,w0⟩:=Fits.int (n:=n+4) Tryz.underlying3 h0
  have h1:=hp 1 _ p1 rfl rfl
  obtain⟨x1,rfl,z1,w1⟩:=(Fits.slice (n:=n+4) (sz:=1) (by_:=8) Tryz.underlying22 (by kernel_rfl) (by kernel_rfl) (λ_ h=>Fits.int Tryz.underlying3 h)) h1
  have h2:=hp 2 _ p2 rfl rfl
  obtain⟨x2,rfl,z2,w2⟩:=(Fits.slice (n:=n+4) (sz:=5) (by_:=56) Tryz.underlying38 (by kernel_rfl) (by kernel_rfl) (λ_ h=>aj.dec h)) h2
  exact⟨⟨x0,x1,x2⟩,rfl,w0,z1,w1,z2,w2⟩
def au.wf(x:au):Prop:=inR .i64 x.Min/\inR .i64 x.Max
theorem au.dec{n:Nat}{cs:List FV}(h:Fits Tryz.prog (n+4) 60 cs):∃ x:au,cs=x.e/\x.wf:=by
 obtain⟨parts,rfl,hl,hp⟩:=Fits.struct (n:=n+3) Tryz.underlying60 h
 match parts,hl with
 | [p0,p1],_=>
  have h0:=hp 0 _ p0 rfl rfl
  obtain⟨x0,rfl,w0⟩:=Fits.int (n:=n+2) Tryz.underlying3 h0
  have h1:=hp 1 _ p1 rfl rfl
  obtain⟨x1,rfl,w1⟩:=Fits.int (n:=n+2) Tryz.underlying3 h1
  exact⟨⟨x0,x1⟩,rfl,w0,w1⟩
def af.wf(x:af):Prop:=inR .i64 x.fType/\inR .u64 x.Init
theorem af.dec{n:Nat}{cs:List FV}(h:Fits Tryz.prog (n+4) 48 cs):∃ x:af,cs=x.e/\x.wf:=by
 obtain⟨parts,rfl,hl,hp⟩:=Fits.struct (n:=n+3) Tryz.underlying48 h
 match parts,hl with
 | [p0,p1,p2],_=>
  have h0:=hp 0 _ p0 rfl rfl
  obtain⟨x0,rfl,w0⟩:=Fits.int (n:=n+2) Tryz.underlying3 h0
  have h1:=hp 1 _ p1 rfl rfl
  obtain⟨x1,rfl⟩:=Fits.bool (n:=n+2) Tryz.underlying4 h1
  have h2:=hp 2 _ p2 rfl rfl
  obtain⟨x2,rfl,w2⟩:=Fits.int (n:=n+2) Tryz.underlying41 h2
  exact⟨⟨x0,x1,x2⟩,rfl,w0,w2⟩
def aa.wf(x:aa):Prop:=x.Name.size<=bigN/\inR .i64 x.Kind/\inR .i64 x.Index
theorem aa.dec{n:Nat}{cs:List FV}(h:Fits Tryz.prog (n+4) 62 cs):∃ x:aa,cs=x.e/\x.wf:=by
 obtain⟨parts,rfl,hl,hp⟩:=Fits.struct (n:=n+3) Tryz.underlying62 h
 match parts,hl with
 | [p0,p1,p2],_=>
  have h0:=hp 0 _ p0 rfl rfl
  obtain⟨x0,rfl,w0⟩:=Fits.str (n:=n+2) Tryz.underlying9 h0
  have h1:=hp 1 _ p1 rfl rfl
  obtain⟨x1,rfl,w1⟩:=Fits.int (n:=n+2) Tryz.underlying3 h1
  have h2:=hp 2 _ p2 rfl rfl
  obtain⟨x2,rfl,w2⟩:=Fits.int (n:=n+2) Tryz.underlying3 h2
  exact⟨⟨x0,x1,x2⟩,rfl,w0,w1,w2⟩
def aA.wf(x:aA):Prop:=inR .i64 x.Mem/\inR .i64 x.At/\x.Bytes.length*1<=bigN/\(∀ y∈x.Bytes,inR .u8 y)
theorem aA.dec{n:Nat}{cs:List FV}(h:Fits Tryz.prog (n+4) 46 cs):∃ x:aA,cs=x.e/\x.wf:=by
 obtain⟨parts,rfl,hl,hp⟩:=Fits.struct (n:=n+3) Tryz.underlying46 h
 match parts,hl with
 | [p0,p1,p2,p3],_=>
  have h0:=hp 0 _ p0 rfl rfl
  obtain⟨x0,rfl⟩:=Fits.bool (n:=n+2) Tryz.underlying4 h0
  have h1:=hp 1 _ p1 rfl rfl
  obtain⟨x1,rfl,w1⟩:=Fits.int (n:=n+2) Tryz.underlying3 h1
  have h2:=hp 2 _ p2 rfl rfl
  obtain⟨x2,rfl,w2⟩:=Fits.int (n:=n+2) Tryz.underlying3 h2
  have h3:=hp 3 _ p3 rfl rfl
  obtain⟨x3,rfl,z3,w3⟩:=(Fits.slice (n:=n+2) (sz:=1) (by_:=1) Tryz.underlying44 (by kernel_rfl) (by kernel_rfl) (λ_ h=>Fits.int Tryz.underlying5 h)) h3
  exact⟨⟨x0,x1,x2,x3⟩,rfl,w1,w2,z3,w3⟩
def am.wf(x:am):Prop:=x.Name.size<=bigN/\x.Bytes.length*1<=bigN/\(∀ y∈x.Bytes,inR .u8 y)
theorem am.dec{n:Nat}{cs:List FV}(h:Fits Tryz.prog (n+4) 64 cs):∃ x:am,cs=x.e/\x.wf:=by
 obtain⟨parts,rfl,hl,hp⟩:=Fits.struct (n:=n+3) Tryz.underlying64 h
 match parts,hl with
 | [p0,p1],_=>
  have h0:=hp 0 _ p0 rfl rfl
  obtain⟨x0,rfl,w0⟩:=Fits.str (n:=n+2) Tryz.underlying9 h0
  have h1:=hp 1 _ p1 rfl rfl
  obtain⟨x1,rfl,z1,w1⟩:=(Fits.slice (n:=n+2) (sz:=1) (by_:=1) Tryz.underlying44 (by kernel_rfl) (by kernel_rfl) (λ_ h=>Fits.int Tryz.underlying5 h)) h1
  exact⟨⟨x0,x1⟩,rfl,w0,z1,w1⟩
def ak.wf(x:ak):Prop:=x.Types.length*48<=bigN/\(∀ y∈x.Types,ab.wf y)/\x.Imports.length*40<=bigN/\(∀ y∈x.Imports,ag.wf y)/\x.Funcs.length*56<=bigN/\(∀ y∈x.Funcs,ai.wf y)/\x.Mems.length*16<=bigN/\(∀ y∈x.Mems,au.wf y)/\x.Globals.length*24<=bigN/\(∀ y∈x.Globals,af.wf y)/\x.Exports.length*32<=bigN/\(∀ y∈x.Exports,aa.wf y)/\x.Datas.length*48<=bigN/\(∀ y∈x.Datas,aA.wf y)/\x.Customs.length*40<=bigN/\(∀ y∈x.Customs,am.wf y)
theorem ak.dec{n:Nat}{cs:List FV}(h:Fits Tryz.prog (n+8) 32 cs):∃ x:ak,cs=x.e/\x.wf:=by
 obtain⟨parts,rfl,hl,hp⟩:=Fits.struct (n:=n+7) Tryz.underlying32 h
 match parts,hl with
 | [p0,p1,p2,p3,p4,p5,p6,p7],_=>
  have h0:=hp 0 _ p0 rfl rfl
  obtain⟨x0,rfl,z0,w0⟩:=(Fits.slice (n:=n+6) (sz:=2) (by_:=48) Tryz.underlying23 (by kernel_rfl) (by kernel_rfl) (λ_ h=>ab.dec h)) h0
  have h1:=hp 1 _ p1 rfl rfl
  obtain⟨x1,rfl,z1,w1⟩:=(Fits.slice (n:=n+6) (sz:=3) (by_:=40) Tryz.underlying24 (by kernel_rfl) (by kernel_rfl) (λ_ h=>ag.dec h)) h1
  have h2:=hp 2 _ p2 rfl rfl
  obtain⟨x2,rfl,z2,w2⟩:=(Fits.slice (n:=n+6) (sz:=3) (by_:=56) Tryz.underlying25 (by kernel_rfl) (by kernel_rfl) (λ_ h=>ai.dec h)) h2
  have h3:=hp 3 _ p3 rfl rfl
  obtain⟨x3,rfl,z3,w3⟩:=(Fits.slice (n:=n+6) (sz:=2) (by_:=16) Tryz.underlying26 (by kernel_rfl) (by kernel_rfl) (λ_ h=>au.dec h)) h3
  have h4:=hp 4 _ p4 rfl rfl
  obtain⟨x4,rfl,z4,w4⟩:=(Fits.slice (n:=n+6) (sz:=3) (by_:=24) Tryz.underlying27 (by kernel_rfl) (by kernel_rfl) (λ_ h=>af.dec h)) h4
  have h5:=hp 5 _ p5 rfl rfl
  obtain⟨x5,rfl,z5,w5⟩:=(Fits.slice (n:=n+6) (sz:=3) (by_:=32) Tryz.underlying28 (by kernel_rfl) (by kernel_rfl) (λ_ h=>aa.dec h)) h5
  have h6:=hp 6 _ p6 rfl rfl
  obtain⟨x6,rfl,z6,w6⟩:=(Fits.slice (n:=n+6) (sz:=4) (by_:=48) Tryz.underlying29 (by kernel_rfl) (by kernel_rfl) (λ_ h=>aA.dec h)) h6
  have h7:=hp 7 _ p7 rfl rfl
  obtain⟨x7,rfl,z7,w7⟩:=(Fits.slice (n:=n+6) (sz:=2) (by_:=40) Tryz.underlying30 (by kernel_rfl) (by kernel_rfl) (λ_ h=>am.dec h)) h7
  exact⟨⟨x0,x1,x2,x3,x4,x5,x6,x7⟩,rfl,z0,w0,z1,w1,z2,w2,z3,w3,z4,w4,z5,w5,z6,w6,z7,w7⟩
def ar.wf(x:ar):Prop:=x.Globals.length*8<=bigN/\(∀ y∈x.Globals,inR .i64 y)
theorem ar.dec{n:Nat}{cs:List FV}(h:Fits Tryz.prog (n+8) 73 cs):∃ x:ar,cs=x.e/\x.wf:=by
 obtain⟨parts,rfl,hl,hp⟩:=Fits.struct (n:=n+7) Tryz.underlying73 h
 match parts,hl with
 | [p0],_=>
  have h0:=hp 0 _ p0 rfl rfl
  obtain⟨x0,rfl,z0,w0⟩:=(Fits.slice (n:=n+6) (sz:=1) (by_:=8) Tryz.underlying22 (by kernel_rfl) (by kernel_rfl) (λ_ h=>Fits.int Tryz.underlying3 h)) h0
  exact⟨⟨x0⟩,rfl,z0,w0⟩
def aq.wf(x:aq):Prop:=x.Base.length*8<=bigN/\(∀ y∈x.Base,inR .i64 y)/\x.Size.length*8<=bigN/\(∀ y∈x.Size,inR .i64 y)/\inR .i64 x.Extra/\x.Grow.length*8<=bigN/\(∀ y∈x.Grow,inR .i64 y)
theorem aq.dec{n:Nat}{cs:List FV}(h:Fits Tryz.prog (n+8) 75 cs):∃ x:aq,cs=x.e/\x.wf:=by
 obtain⟨parts,rfl,hl,hp⟩:=Fits.struct (n:=n+7) Tryz.underlying75 h
 match parts,hl with
 | [p0,p1,p2,p3],_=>
  have h0:=hp 0 _ p0 rfl rfl
  obtain⟨x0,rfl,z0,w0⟩:=(Fits.slice (n:=n+6) (sz:=1) (by_:=8) Tryz.underlying22 (by kernel_rfl) (by kernel_rfl) (λ_ h=>Fits.int Tryz.underlying3 h)) h0
  have h1:=hp 1 _ p1 rfl rfl
  obtain⟨x1,rfl,z1,w1⟩:=(Fits.slice (n:=n+6) (sz:=1) (by_:=8) Tryz.underlying22 (by kernel_rfl) (by kernel_rfl) (λ_ h=>Fits.int Tryz.underlying3 h)) h1
  have h2:=hp 2 _ p2 rfl rfl
  obtain⟨x2,rfl,w2⟩:=Fits.int (n:=n+6) Tryz.underlying3 h2
  have h3:=hp 3 _ p3 rfl rfl
  obtain⟨x3,rfl,z3,w3⟩:=(Fits.slice (n:=n+6) (sz:=1) (by_:=8) Tryz.underlying22 (by kernel_rfl) (by kernel_rfl) (λ_ h=>Fits.int Tryz.underlying3 h)) h3
  exact⟨⟨x0,x1,x2,x3⟩,rfl,z0,w0,z1,w1,w2,z3,w3⟩
def ah.wf(x:ah):Prop:=ak.wf x.Module/\ar.wf x.Slots/\aq.wf x.Layout/\x.Types.length*48<=bigN/\(∀ y∈x.Types,ab.wf y)/\x.Names.length*32<=bigN/\(∀ y∈x.Names,aa.wf y)/\x.Hidden.length*32<=bigN/\(∀ y∈x.Hidden,aa.wf y)/\inR .i64 x.Extra/\inR .i64 x.Mems/\inR .i64 x.Globals
theorem ah.dec{n:Nat}{cs:List FV}(h:Fits Tryz.prog (n+10) 77 cs):∃ x:ah,cs=x.e/\x.wf:=by
 obtain⟨parts,rfl,hl,hp⟩:=Fits.struct (n:=n+9) Tryz.underlying77 h
 match parts,hl with
 | [p0,p1,p2,p3,p4,p5,p6,p7,p8],_=>
  have h0:=hp 0 _ p0 rfl rfl
  obtain⟨x0,rfl,w0⟩:=ak.dec (n:=n+1) h0
  have h1:=hp 1 _ p1 rfl rfl
  obtain⟨x1,rfl,w1⟩:=ar.dec (n:=n+1) h1
  have h2:=hp 2 _ p2 rfl rfl
  obtain⟨x2,rfl,w2⟩:=aq.dec (n:=n+1) h2
  have h3:=hp 3 _ p3 rfl rfl
  obtain⟨x3,rfl,z3,w3⟩:=(Fits.slice (n:=n+8) (sz:=2) (by_:=48) Tryz.underlying23 (by kernel_rfl) (by kernel_rfl) (λ_ h=>ab.dec h)) h3
  have h4:=hp 4 _ p4 rfl rfl
  obtain⟨x4,rfl,z4,w4⟩:=(Fits.slice (n:=n+8) (sz:=3) (by_:=32) Tryz.underlying28 (by kernel_rfl) (by kernel_rfl) (λ_ h=>aa.dec h)) h4
  have h5:=hp 5 _ p5 rfl rfl
  obtain⟨x5,rfl,z5,w5⟩:=(Fits.slice (n:=n+8) (sz:=3) (by_:=32) Tryz.underlying28 (by kernel_rfl) (by kernel_rfl) (λ_ h=>aa.dec h)) h5
  have h6:=hp 6 _ p6 rfl rfl
  obtain⟨x6,rfl,w6⟩:=Fits.int (n:=n+8) Tryz.underlying3 h6
  have h7:=hp 7 _ p7 rfl rfl
  obtain⟨x7,rfl,w7⟩:=Fits.int (n:=n+8) Tryz.underlying3 h7
  have h8:=hp 8 _ p8 rfl rfl
  obtain⟨x8,rfl,w8⟩:=Fits.int (n:=n+8) Tryz.underlying3 h8
  exact⟨⟨x0,x1,x2,x3,x4,x5,x6,x7,x8⟩,rfl,w0,w1,w2,z3,w3,z4,w4,z5,w5,w6,w7,w8⟩
namespace Mo
theorem Seq.lb{n:Nat}{c:List aj}(h:Seq n c):∀ i∈c,i.L.length<=5:=by
 induction h with
 | nil=>intro i hi;cases hi
 | one h=>intro i hi;rw[List.mem_singleton.1 hi];cases h <;> simp_all
 | app _ _ ha hb=>intro i hi;exact(List.mem_append.1 hi).elim (ha i) (hb i)
 | blk _ _ _ _ hb=>
  intro i hi
  rcases List.mem_cons.1 hi with rfl | hi
  ·simp
  ·rcases List.mem_append.1 hi with h | h
   ·exact hb i h
   ·rw[List.mem_singleton.1 h];simp[END]
 | ite _ _ _ _ hb hd=>
  intro i hi
  rcases List.mem_cons.1 hi with rfl | hi
  ·simp
  ·rcases List.mem_append.1 hi with h | h
   ·exact hb i h
   ·rcases List.mem_cons.1 h with rfl | h
    ·simp[ELSE]
    ·rcases List.mem_append.1 h with h | h
     ·exact hd i h
     ·rw[List.mem_singleton.1 h];simp[END]
theorem fit_start{T:List ab}{I:List ag}{G:List af}{D:List aA}{F:List ai}{M:List au}{E:List aa}(h:ModOk T I G D F M E):Fit ⟨T,I,F,M,G,E,D,[]⟩:=by
 refine⟨?_,?_,by have:=h.funcs.2.1;dsimp only;omega,by have:=h.mems.1;dsimp only;omega,?_,?_,?_,by simp,λt ht=>?_,λf hf=>?_⟩
 ·dsimp only;rw[h.types];decide
 ·dsimp only;rw[h.imports];decide
 ·dsimp only;rw[h.globals];decide
 ·obtain⟨g,-,-,e⟩:=h.exports
  have:=h.funcs.2.1
  dsimp only
  rw[e]
  simp only[List.length_append,List.length_map,List.length_range,List.length_cons,List.length_nil]
  split <;> simp <;> omega
 ·dsimp only
  rcases h.datas with⟨-,e⟩ | ⟨a,b,-,-,-,-,e⟩ <;> rw[e] <;> simp
 ·dsimp only at ht;rw[h.types]at ht;have:=akD t ht;exact⟨by omega,by omega⟩
 ·obtain⟨q1,q2,b,hb,hs⟩:=h.funcs.2.2 f hf
  have:=q1.2.2.1
  refine⟨by omega,by omega,λi hi=>?_⟩
  rw[hb]at hi
  have:i.L.length<=5:=by
   rcases List.mem_append.1 hi with h | h
   ·exact hs.lb i h
   ·rw[List.mem_singleton.1 h];simp[END]
  omega
end Mo
namespace Mn
theorem bN:bigN=140737488351232:=rfl
theorem aop{m:ak}(h:m.wf):Fit m:=by
 have hb:=bN
 obtain⟨a1,a2,b1,b2,c1,c2,d1,d2,e1,e2,f1,f2,g1,g2,h1,h2⟩:=h
 refine⟨by omega,by omega,by omega,by omega,by omega,by omega,by omega,by omega,λx hx=>?_,λx hx=>?_⟩
 ·obtain⟨q1,-,q2,-⟩:=a2 x hx;exact⟨by omega,by omega⟩
 ·obtain⟨-,q1,-,q2,q3⟩:=c2 x hx
  exact⟨by omega,by omega,λy hy=>by obtain⟨-,-,-,-,q,-⟩:=q3 y hy;omega⟩
theorem anm{p:ah}(h:p.wf):FitP p/\Nums p:=by
 have hb:=bN
 obtain⟨m,⟨s1,s2⟩,⟨b1,b2,c1,c2,-,d1,d2⟩,t1,t2,n1,n2,h1,h2,-⟩:=h
 refine⟨⟨aop m,by omega,by omega,by omega,by omega,by omega,λt ht=>?_,by omega,by omega⟩,⟨s2,b2,c2,d2⟩⟩
 obtain⟨q1,-,q2,-⟩:=t2 t ht;exact⟨by omega,by omega⟩
theorem aj8{l:List Int}:Wp (λk=>di.f k l) (λr=>r.length<=l.length/\∀ x∈r,x∈l):=by
 refine .succ ?_
 simp only[di.f]
 refine .ite (λh=>.pos ⟨by omega,by omega⟩ (.one ⟨by rw[List.length_take];omega,λx hx=>List.mem_of_mem_take hx⟩)) (λ_=>.one ⟨Nat.le_refl _,λx hx=>hx⟩)
theorem ant{n m:Int}(h0:0<=n)(hm:0<m):0<=irem .i64 n m/\irem .i64 n m<m:=by
 unfold irem
 exact⟨Int.tmod_nonneg _ h0,Int.tmod_lt_of_pos _ hm⟩
theorem amY{T:List ab}{I:List ag}{G:List af}{D:List aA}{F:List ai}{M:List au}{E:List aa}{d:aF}(h:Mo.ModOk T I G D F M E)(hd:d.wf) :
  Wp (λk=>bE.f k T I G D d F M E) (λp=>FitP p/\Nums p):=by
 have hb:=bN
 obtain⟨s1,s2,b1,b2,z1,z2,g1,g2,t1,t2,n1,n2,e1,e2,e3,e4⟩:=hd
 refine .succ ?_
 simp only[bE.f]
 refine .seg (Q:=λl=>l.length<=1000/\∀ x∈l,inR .i64 x) ?_ (λl hl=>?_)
 ·refine .ite (λh2=>?_) (λh2=>.left ⟨by omega,s2⟩)
  refine .bind (Q:=λl=>l.length<=1000/\∀ x∈l,inR .i64 x) ?_ (λl hl=>.left hl)
  refine .loop (λ(n:Nat) (v:Int×List Int)=>0<=v.1/\v.1+(n:Int)=24/\v.2.length=24/\∀ x∈v.2,inR .i64 x) (λn v hv=>?_) (n:=24) ⟨by simp,by simp,by simp,λx hx=>by
   rw[List.eq_of_mem_replicate hx];exact aeH (by omega) (by omega)⟩
  obtain⟨x,l⟩:=v
  obtain⟨h3,h4,h5,h6⟩:=hv
  dsimp only at h3 h4 h5 h6
  simp only[bE.b5,List.length_replicate]
  refine .ite (λhx=>?_) (λhx=>.right ⟨by omega,h6⟩)
  obtain⟨i0,i1⟩:=ant h3 (show 0<(d.Slots.length:Int)by omega)
  refine .pos (by omega) (.bind (.idx i0 i1) (λe he=>.pos ⟨h3,by omega⟩ (.bind (.get (by omega)) (λe' _=>.left ⟨n-1,by omega,?_⟩))))
  rw[aah (by omega) (by omega)]
  refine⟨by dsimp only;omega,by dsimp only;omega,by dsimp only;rw[List.length_set];exact h5,λy hy=>?_⟩
  rcases List.mem_or_eq_of_mem_set hy with hy | rfl
  ·exact h6 y hy
  ·exact s2 _ (List.mem_of_getElem? he)
 refine .bind aj8 (λl1 h1=>.bind aj8 (λl2 h2=>.bind aj8 (λl3 h3=>?_)))
 refine .bind (Q:=λl=>l.length<=20/\∀ t∈l,FitT t) ?_ (λlt ht=>.bind (Q:=λl=>l.length<=6) ?_ (λle hle=>?_))
 ·refine .loop (λ(n:Nat) (v:Int×List ab)=>0<=v.1/\v.1<=20/\v.1+(n:Int)=21/\(v.2.length:Int)=v.1/\∀ t∈v.2,FitT t) (λn v hv=>?_) (n:=21) ⟨by simp,by simp,by simp,by simp,by simp⟩
  obtain⟨x,l⟩:=v
  obtain⟨h4,h5,h6,h7,h8⟩:=hv
  dsimp only at h4 h5 h6 h7 h8
  simp only[bE.b13]
  refine .ite (λhx=>.ite (λhy=>?_) (λ_=>.right ⟨by omega,h8⟩)) (λ_=>.right ⟨by omega,h8⟩)
  have m3:∀ e:Int,iand .i64 e 3=e % 4:=λe=>abc (j:=2) (by decide) (by decide)
  have m1:∀ e:Int,iand .i64 e 1=e % 2:=λe=>abc (j:=1) (by decide) (by decide)
  refine .bind (.idx h4 hx) (λa _=>.bind (.idx h4 hx) (λb _=>?_))
  rw[m3]
  refine .pos (by omega) (.bind (.get (by simp;omega)) (λe _=>.bind (.idx h4 hx) (λc _=>?_)))
  rw[m1]
  refine .pos (by omega) (.pos (aab (by omega) (by omega)) (.left ⟨n-1,by omega,?_⟩))
  rw[aah (by omega) (by omega)]
  refine⟨by dsimp only;omega,by dsimp only;omega,by dsimp only;omega,by dsimp only;rw[List.length_append];simp;omega,λt ht=>?_⟩
  rcases List.mem_append.1 ht with ht | ht
  ·exact h8 t ht
  ·rw[List.mem_singleton.1 ht]
   exact⟨by simp,by simp only[List.length_take,List.length_drop,List.length_cons,List.length_nil];omega⟩
 ·refine .loop (λ(n:Nat) (v:Int×List aa)=>0<=v.1/\v.1<=6/\v.1+(n:Int)=7/\(v.2.length:Int)=v.1) (λn v hv=>?_) (n:=7) ⟨by simp,by simp,by simp,by simp⟩
  obtain⟨x,l⟩:=v
  obtain⟨h4,h5,h6,h7⟩:=hv
  dsimp only at h4 h5 h6 h7
  simp only[bE.b18]
  refine .ite (λhx=>.ite (λhy=>?_) (λ_=>.right (by omega))) (λ_=>.right (by omega))
  have m3:iand .i64 x 3=x % 4:=abc (j:=2) (by decide) (by decide)
  refine .bind (.idx h4 hx) (λa _=>.seg (Q:=λ_=>True) ?_ (λs _=>?_))
  ·exact .ite (λh9=>.pos ⟨by omega,by omega,by omega⟩ (.left trivial)) (λ_=>.left trivial)
  ·rw[m3]
   refine .pos (by omega) (.bind (.get (by simp;omega)) (λe _=>.pos (aab (by omega) (by omega)) (.left ⟨n-1,by omega,?_⟩)))
   rw[aah (by omega) (by omega)]
   exact⟨by dsimp only;omega,by dsimp only;omega,by dsimp only;omega,by dsimp only;rw[List.length_append];simp;omega⟩
 have hq:iquo .i64 (le.length:Int) 2=(le.length:Int)/2:=by
  have:iquo .i64 (le.length:Int) 2=IntKind.i64.wrap (Int.tdiv (le.length:Int) 2):=rfl
  rw[this,Int.tdiv_eq_ediv_of_nonneg (by omega),aa9 (aeH (by omega) (by omega))]
 rw[hq]
 refine .pos (by omega) (.one ⟨⟨Mo.fit_start h,by dsimp only;omega,by dsimp only;omega,by dsimp only;omega,by dsimp only;omega,by dsimp only;omega,ht.2,by dsimp only;omega,by dsimp only;rw[List.length_take];omega⟩,
  ⟨hl.2,λx hx=>b2 x (h1.2 x hx),λx hx=>z2 x (h2.2 x hx),λx hx=>g2 x (h3.2 x hx)⟩⟩)
theorem ajO(p:ah):1<=(planE p).length:=by
 have:1<=(rowE p.Slots.Globals).length:=by simp only[rowE,List.length_append,Lb.encU,List.length_cons];omega
 simp only[planE,List.length_append];omega
theorem within_wp{n lo hi:Int}(h1:lo<=hi)(h2:-1000000000000000000<=lo)(h3:hi<=1000000000000000000):Wp (λk=>bY.f k n lo hi) (λr=>lo<=r/\r<=hi):=
 (Mo.within_wp h1 h2 h3).mono λ_ h=>⟨h.1,h.2.1⟩
theorem alr{turn:Int}{p:ah}{b:List Int}{w e:Int}{more:List Int}(hf:FitP p)(q:RPl p)(hb:Lb.By b)(hl:b.length<=100000)(hm:Lb.By more)(hml:more.length<=20){y:Int}(hy:y=3) :
  Wp (λk=>loopS (law25_ManifestTells.b12 k turn p b w e more y) k (0:Int)) (aaR (λ_=>True) (λ_=>False)):=by
 subst hy
 have hs:Siz p.Module:=ajW hf.m q.m.1 q.m.2
 refine .loop (λ(n:Nat) (x:Int)=>0<=x/\x+(n:Int)=3) (λn x hv=>?_) (n:=3) ⟨by omega,by omega⟩
 obtain⟨h1,h2⟩:=hv
 simp only[law25_ManifestTells.b12]
 refine .ite (λhx=>.seg (Q:=λ_=>True) (.bind (.idx h1 (by simpa using hx)) (λc hc=>?_)) (λ_ _=>.left ⟨n-1,by omega,?_⟩)) (λ_=>.right (show aaR _ _ (.inl ())from trivial))
 ·have hcb:Lb.By c/\c.length<=1000000:=by
   have hmem:=List.mem_of_getElem? hc
   simp only[List.mem_cons,List.not_mem_nil,or_false]at hmem
   rcases hmem with rfl | rfl | rfl
   ·refine⟨λx hx=>?_,by rw[List.length_set];omega⟩
    rcases List.mem_or_eq_of_mem_set hx with hx | rfl
    ·exact hb x hx
    ·exact akU _
   ·exact⟨hb.app hm,by rw[List.length_append];omega⟩
   ·exact⟨hm,by omega⟩
  refine .bind (al5 hs hcb.1 hcb.2) (λr hr=>?_)
  obtain⟨r1,r2⟩:=r
  rcases hr with⟨g1,g2,g3,g4⟩ | hr
  ·dsimp only at g1 g2 g3 g4 ⊢
   have hf1:FitP r1:=aiT (by rw[g3];exact hf.m) g2
   refine .pos g1 (.bind (ad3 g2) (λu hu=>?_))
   subst hu
   refine .neg (by simp[g4]) (.bind (ad9 hf1) (λv hv=>?_))
   rw[hv.2 g2]
   exact .neg (by simp) (.pos g1 (.left trivial))
  ·cases hr
   exact .neg (by decide) (.neg (by decide) (.pos rfl (.pos rfl (.left trivial))))
 ·rw[aah (by omega) (by omega)];omega
end Mn
open Mn in
theorem ManifestTells{l:List Int}{d:aF}{p:ah}{at_ turn:Int}{more:List Int}(z0:l.length*8<=bigN)(w0:∀ y∈l,inR .i64 y)(w1:d.wf)(w2:p.wf)(w3:inR .i64 at_)(w4:inR .u8 turn)(z5:more.length*1<=bigN)(w5:∀ y∈more,inR .u8 y) :
  ∃ k,law25_ManifestTells.f k l d p at_ turn more=some true:=by
 have hb:=Mn.bN
 refine Wp.fuel (.succ ?_)
 simp only[law25_ManifestTells.f]
 refine .bind (Mo.module_wp (by omega)) (λr hr=>?_)
 obtain⟨T,I,G,D,F,M,E⟩:=r
 dsimp only at hr ⊢
 refine .bind (amY hr w1) (λm hm=>?_)
 refine .bind (akI hm.1 hm.2) (λr hr=>.neg (by simp[hr]) ?_)
 obtain⟨p1,p2⟩:=anm w2
 refine .bind (akI p1 p2) (λr hr=>.neg (by simp[hr]) ?_)
 refine .bind (ad9 hm.1) (λr hr=>.nif hr (λ_=>.bind Mn.known_wp (λr hr=>.one hr)) (λq=>?_))
 refine .bind (ad3 q) (λb hbq=>?_)
 subst hbq
 have hl:=age q
 have hp:=ajO m
 have hby:=ahE q
 obtain⟨b,hbb⟩:∃ b,planE m=b:=⟨_,rfl⟩
 rw[hbb]at hl hp hby ⊢
 rw[aas (by omega) (by omega)]
 refine .pos (aab (by omega) (by omega)) (.bind (within_wp (by omega) (by omega) (by omega)) (λw hw=>?_))
 have hin:(0:Int)<=w/\w<(b.length:Int):=⟨hw.1,by omega⟩
 refine .pos hin (.bind (.get (by omega)) (λe _=>.pos hin (.bind (.get (by omega)) (λ_ _=>?_))))
 refine .seg (Q:=λc=>Lb.By c/\c.length<=20) ?_ (λc hc=>?_)
 ·exact .ite (λh=>.pos ⟨by omega,by omega⟩ (.left ⟨λx hx=>w5 x (List.mem_of_mem_take hx),by rw[List.length_take];omega⟩)) (λh=>.left ⟨w5,by omega⟩)
 ·refine .pos (aab (by omega) (by omega)) (.pos (aab (by omega) (by omega)) ?_)
  exact .alt (alr hm.1 q hby hl hc.1 hc.2 (by simp)) (λ_ _=>.bind Mn.known_wp (λr hr=>.one hr)) (λ_ h=>h.elim)
end Go.R4
