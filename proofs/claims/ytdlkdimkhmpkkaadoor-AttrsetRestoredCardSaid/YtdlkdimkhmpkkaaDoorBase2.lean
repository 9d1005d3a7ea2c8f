/- What the interpreter asks of this program, proved. No conditions. -/
import Derived.Test.YtdlkdimkhmpkkaaDoorOwn18
set_option linter.all false

namespace Go.Own
open D
end Go.Own
