import Derived.Test.YtfjpaakonepafaaEvInt
set_option linter.all false
namespace Go.Ev
theorem wrap_u64 (n : Int) : IntKind.u64.wrap n = n % 18446744073709551616 := by
 simp [IntKind.wrap, IntKind.bits, IntKind.signed]
end Go.Ev
