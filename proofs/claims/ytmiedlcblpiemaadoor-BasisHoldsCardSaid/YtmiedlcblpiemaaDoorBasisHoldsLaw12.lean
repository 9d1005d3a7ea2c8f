/- What the functions answer. No conditions. -/
import Derived.Test.YtmiedlcblpiemaaDoorBasisHoldsLaw6
import Derived.Test.YtmiedlcblpiemaaDoorBasisHoldsLaw10
set_option linter.all false
namespace Go.Own
namespace q49_
end q49_
end Go.Own
