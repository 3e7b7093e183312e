import Derived.Test.YtganajogkdinaaaGreatEvSym3
set_option linter.all false
namespace Go.Ev
end Go.Ev
