import Derived.Test.YtfjpaakonepafaaEvSym3
set_option linter.all false
namespace Go.Ev
end Go.Ev
