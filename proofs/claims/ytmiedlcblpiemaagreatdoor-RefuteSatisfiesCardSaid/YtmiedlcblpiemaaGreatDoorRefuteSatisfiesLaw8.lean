/- What the functions answer. No conditions. -/
import Derived.Test.YtmiedlcblpiemaaGreatDoorRefuteSatisfiesLaw3
import Derived.Test.YtmiedlcblpiemaaGreatDoorRefuteSatisfiesLaw5
set_option linter.all false
namespace Go.Own
end Go.Own
