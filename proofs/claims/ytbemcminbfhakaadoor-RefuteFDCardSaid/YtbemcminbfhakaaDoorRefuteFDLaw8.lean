/- What the functions that the law reaches answer. No conditions. -/
import Derived.Test.YtbemcminbfhakaaDoorRefuteFDLaw5
import Derived.Test.YtbemcminbfhakaaDoorRefuteFDLaw6
import Derived.Test.YtbemcminbfhakaaDoorBase1
import Derived.Test.YtbemcminbfhakaaDoorOwn25
import Derived.Test.YtbemcminbfhakaaDoorRefuteFDLaw2
set_option linter.all false
namespace Go.Own
end Go.Own
namespace Go.Own
end Go.Own
