/- What the functions that the law reaches answer. No conditions. -/
import Derived.Test.YtbemcminbfhakaaDoorRefuteTwoLaw5
import Derived.Test.YtbemcminbfhakaaDoorRefuteTwoLaw6
import Derived.Test.YtbemcminbfhakaaDoorBase1
import Derived.Test.YtbemcminbfhakaaDoorOwn25
import Derived.Test.YtbemcminbfhakaaDoorRefuteTwoLaw2
set_option linter.all false
namespace Go.Own
end Go.Own
namespace Go.Own
end Go.Own
