/- What the functions answer. No conditions. -/
import Derived.Test.YtmiedlcblpiemaaGreatDoorRefuteCheckLaw3
import Derived.Test.YtmiedlcblpiemaaGreatDoorRefuteCheckLaw5
set_option linter.all false
namespace Go.Own
end Go.Own
