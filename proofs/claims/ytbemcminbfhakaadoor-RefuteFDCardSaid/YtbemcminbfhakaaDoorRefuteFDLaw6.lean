/- What the functions that the law reaches answer. No conditions. -/
import Derived.Test.YtbemcminbfhakaaDoorRefuteFDLaw2
import Derived.Test.YtbemcminbfhakaaDoorRefuteFDLaw3
import Derived.Test.YtbemcminbfhakaaDoorBase1
import Derived.Test.YtbemcminbfhakaaDoorOwn25
set_option linter.all false
namespace Go.Own
end Go.Own
