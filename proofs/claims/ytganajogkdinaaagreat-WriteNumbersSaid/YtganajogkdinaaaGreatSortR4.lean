import Derived.Test.YtganajogkdinaaaGreatProg
import Derived.Shelf.SlSortCmp.WholeK
import Derived.Shelf.SlicesG.Cmp
import Derived.Shelf.SlGeneric
import Derived.Ground.SlsfProg
import Derived.Ground.SlgcProg
import Derived.Test.YtganajogkdinaaaGreatRows
import Derived.Test.YtganajogkdinaaaGreatEvSort
set_option linter.all false
namespace Go.Proofs
open Go.Shelf
def Tryz.sortSpan_ren:Go.Shelf.Ren:=⟨fun | 6=>235 | 15=>288 | 14=>292 | 28=>323 | 29=>324 | 20=>325 | 21=>326 | 22=>327 | 23=>328 | 24=>329 | 25=>330 | 26=>331 | 27=>332 | 46=>348 | 47=>349 | 48=>350 | 49=>351 | 50=>352 | 57=>357 | n=>n,fun | 22=>188 | 24=>265 | 25=>266 | 3=>3 | 39=>220 | 0=>0 | 53=>294 | 55=>41 | 4=>4 | 46=>312 | 45=>311 | 50=>228 | 5=>5 | 9=>9 | 66=>327 | 70=>331 | 76=>335 | 77=>336 | n=>n,fun | n=>n⟩
theorem Tryz.sortSpan:Go.Proofs.SlLaysF0.n6 Tryz.prog Tryz.sortSpan_ren:={
 mixed:=by kernel_rfl
 f6:=⟨Tryz.f235.name,by decide,Tryz.func235.trans (congrArg some (by kernel_rfl))⟩
 f14:=⟨Tryz.f292.name,by decide,Tryz.func292.trans (congrArg some (by kernel_rfl))⟩
 f15:=Tryz.func288.trans (congrArg some (by kernel_rfl))
 f20:=⟨Tryz.f325.name,by decide,Tryz.func325.trans (congrArg some (by kernel_rfl))⟩
 f21:=⟨Tryz.f326.name,by decide,Tryz.func326.trans (congrArg some (by kernel_rfl))⟩
 f22:=⟨Tryz.f327.name,by decide,Tryz.func327.trans (congrArg some (by kernel_rfl))⟩
 f23:=⟨Tryz.f328.name,by decide,Tryz.func328.trans (congrArg some (by kernel_rfl))⟩
 f24:=⟨Tryz.f329.name,by decide,Tryz.func329.trans (congrArg some (by kernel_rfl))⟩
 f25:=⟨Tryz.f330.name,by decide,Tryz.func330.trans (congrArg some (by kernel_rfl))⟩
 f26:=⟨Tryz.f331.name,by decide,Tryz.func331.trans (congrArg some (by kernel_rfl))⟩
 f27:=⟨Tryz.f332.name,by decide,Tryz.func332.trans (congrArg some (by kernel_rfl))⟩
 f28:=Tryz.func323.trans (congrArg some (by kernel_rfl))
 f29:=Tryz.func324.trans (congrArg some (by kernel_rfl))
 f46:=⟨Tryz.f348.name,by decide,Tryz.func348.trans (congrArg some (by kernel_rfl))⟩
 f47:=Tryz.func349.trans (congrArg some (by kernel_rfl))
 f48:=Tryz.func350.trans (congrArg some (by kernel_rfl))
 f49:=⟨Tryz.f351.name,by decide,Tryz.func351.trans (congrArg some (by kernel_rfl))⟩
 f50:=⟨Tryz.f352.name,by decide,Tryz.func352.trans (congrArg some (by kernel_rfl))⟩
 f57:=⟨Tryz.f357.name,by decide,Tryz.func357.trans (congrArg some (by kernel_rfl))⟩
 t0:=Tryz.underlying0
 a0:=Tryz.isAgg0
 z0:=Tryz.sizeOf0
 v0:=Tryz.zeroValue0
 t3:=Tryz.underlying3
 a3:=Tryz.isAgg3
 z3:=Tryz.sizeOf3
 v3:=Tryz.zeroValue3
 t4:=Tryz.underlying4
 a4:=Tryz.isAgg4
 z4:=Tryz.sizeOf4
 v4:=Tryz.zeroValue4
 t5:=Tryz.underlying5
 a5:=Tryz.isAgg5
 z5:=Tryz.sizeOf5
 v5:=Tryz.zeroValue5
 t9:=Tryz.underlying9
 a9:=Tryz.isAgg9
 z9:=Tryz.sizeOf9
 v9:=Tryz.zeroValue9
 t22:=Tryz.underlying188
 a22:=Tryz.isAgg188
 z22:=Tryz.sizeOf188
 v22:=Tryz.zeroValue188
 t25:=Tryz.underlying266
 a25:=Tryz.isAgg266
 z25:=Tryz.sizeOf266
 v25:=Tryz.zeroValue266
 t39:=Tryz.underlying220
 a39:=Tryz.isAgg220
 z39:=Tryz.sizeOf220
 v39:=Tryz.zeroValue220
 t45:=Tryz.underlying311
 a45:=Tryz.isAgg311
 z45:=Tryz.sizeOf311
 v45:=Tryz.zeroValue311
 t46:=Tryz.underlying312
 a46:=Tryz.isAgg312
 z46:=Tryz.sizeOf312
 v46:=Tryz.zeroValue312
 t50:=Tryz.underlying228
 a50:=Tryz.isAgg228
 z50:=Tryz.sizeOf228
 v50:=Tryz.zeroValue228
 t53:=Tryz.underlying294
 a53:=Tryz.isAgg294
 z53:=Tryz.sizeOf294
 v53:=Tryz.zeroValue294
 t55:=Tryz.underlying41
 a55:=Tryz.isAgg41
 z55:=Tryz.sizeOf41
 v55:=Tryz.zeroValue41
 t66:=Tryz.underlying327
 a66:=Tryz.isAgg327
 z66:=Tryz.sizeOf327
 v66:=Tryz.zeroValue327
 t70:=Tryz.underlying331
 a70:=Tryz.isAgg331
 z70:=Tryz.sizeOf331
 v70:=Tryz.zeroValue331
 t76:=Tryz.underlying335
 a76:=Tryz.isAgg335
 z76:=Tryz.sizeOf335
 v76:=Tryz.zeroValue335
 t77:=Tryz.underlying336
 a77:=Tryz.isAgg336
 z77:=Tryz.sizeOf336
 v77:=Tryz.zeroValue336 }
def Tryz.cmpInt_ren:Go.Shelf.Ren:=⟨fun | 5=>237 | 7=>293 | n=>n,fun | 22=>3 | 3=>3 | 4=>4 | n=>n,fun | n=>n⟩
theorem Tryz.cmpInt:Go.Proofs.SlLaysC2.n5 Tryz.prog Tryz.cmpInt_ren:={
 mixed:=by kernel_rfl
 f5:=⟨Tryz.f237.name,by decide,Tryz.func237.trans (congrArg some (by kernel_rfl))⟩
 f7:=⟨Tryz.f293.name,by decide,Tryz.func293.trans (congrArg some (by kernel_rfl))⟩
 t3:=Tryz.underlying3
 a3:=Tryz.isAgg3
 z3:=Tryz.sizeOf3
 v3:=Tryz.zeroValue3
 t4:=Tryz.underlying4
 a4:=Tryz.isAgg4
 z4:=Tryz.sizeOf4
 v4:=Tryz.zeroValue4
 t22:=Tryz.underlying3
 a22:=Tryz.isAgg3
 z22:=Tryz.sizeOf3
 v22:=Tryz.zeroValue3 }
end Go.Proofs
namespace Go.R4
open Go.Proofs Go.Shelf Go.RowKit Go.Lib Go.Sort Go.Ev
set_option maxRecDepth 100000
set_option maxHeartbeats 1000000 in
theorem aia(x y:T3)(W:World):Calls Tryz.prog 236 #[.agg #[.int .i64 x.1,.int .i64 x.2.1,.int .i64 x.2.2],.agg #[.int .i64 y.1,.int .i64 y.2.1,.int .i64 y.2.2]] W λe w'=>e = .returned (.int .i64 (Lib.compareInt x.1 y.1))/\∃ q os',w'=grow (W.drewN q) os':=by
 have hcon:=λW'=>AnyG.cmp_Compare_int Tryz.cmpInt x.1 y.1 W'
 change ∀ W',Calls Tryz.prog 237 _ _ _ at hcon
 generalize Lib.compareInt x.1 y.1=r at hcon ⊢
 go_enter Tryz.func236,Tryz.ntmps236
 go_wp2_with (go_at_call 237;refine(hcon _).mono ?_;rintro e w' ⟨rfl,rfl⟩)
 go_ret
 exact⟨rfl,0,_,by rw[alloc_eq_grow,alloc_eq_grow,grow_grow];rfl⟩
theorem aiA(blk off size:Nat)(w:World):CmpLays Tryz.prog 236 #[] encV 3 (λx y:T3=>Lib.compareInt x.1 y.1) blk off size w:=
 λ_ _ _ _ x y=>aia x y _
theorem alI(blk off cap:Nat)(d:Array T3)(w:World)(hH:HoldsK encV 3 w blk off d)(hb:blk<w.heap.size)(hs:d.size<4611686018427387904):Calls Tryz.prog 235 #[.slice (some ⟨blk,off,none⟩) d.size cap,.func (.func 236) #[] #[]] w λe w'=>
  e = .returned (.tuple #[])/\∃ d' n os,PermIn 0 d.size d d'/\SortedIn (ltOf λx y:T3=>Lib.compareInt x.1 y.1) 0 d.size d'/\w'=sortWorldK encV 3 w blk off n d' os:=by
 have eg:∀ args w,(callFunc 236 args).run Tryz.prog w = .ok (.enter 236 args) w:=enters_of Tryz.func236 (by kernel_rfl) rfl
 have hcon:=AnyQ.slices_SortFunc Tryz.sortSpan 3 Tryz.isAgg265 Tryz.sizeOf265 encV (λ_=>rfl) (λx v hv=>by simp[encV]at hv;rcases hv with rfl | rfl | rfl <;> rfl) (λx y:T3=>Lib.compareInt x.1 y.1) swo3 236 #[] blk off cap d w eg (aiA blk off d.size w) hH hb hs
 exact hcon
theorem anM:evCall Tryz.prog ⟨λ_ _=>[],λ_=>[],λ_=>false⟩ ad4 12 235 [.c (.v (.sl 3 [] none)),.c (.v (.fn 236 []))] []=some (.tup [],[]):=by kernel_rfl
theorem amq[Glo]:aa7 Tryz.prog (λh args hp=>if h=235 then sortP 3 236 args hp else none):=alx (by kernel_rfl) anM alI
end Go.R4
