/- What the functions answer. No conditions. -/
import Derived.Test.YtmiedlcblpiemaaGreatDoorRefuteSatisfiesLaw7
import Derived.Test.YtmiedlcblpiemaaGreatDoorRefuteSatisfiesLaw3
set_option linter.all false
namespace Go.Own
end Go.Own
