/- What the functions that the law reaches answer. No conditions. -/
import Derived.Test.YtbemcminbfhakaaDoorRefuteTwoLaw2
import Derived.Test.YtbemcminbfhakaaDoorRefuteTwoLaw3
import Derived.Test.YtbemcminbfhakaaDoorBase1
import Derived.Test.YtbemcminbfhakaaDoorOwn25
set_option linter.all false
namespace Go.Own
end Go.Own
