import Derived.Test.YtganajogkdinaaaGreatGPe
import Derived.KernelRfl
set_option linter.all false
namespace Go.R4
open Go.Proofs Go.Ev
set_option maxRecDepth 100000
theorem mixed:Tryz.prog.follows .mixedOrders=true:=by kernel_rfl
theorem primsOk:ags Tryz.prog prims:=λf p h=>by
 unfold prims at h
 split at h
 ·cases h;exact amc
 ·cases h
end Go.R4
