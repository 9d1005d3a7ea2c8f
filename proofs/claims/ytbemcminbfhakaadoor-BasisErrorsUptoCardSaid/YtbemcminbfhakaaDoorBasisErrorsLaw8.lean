/- What the functions that the law reaches answer. No conditions. -/
import Derived.Test.YtbemcminbfhakaaDoorBasisErrorsLaw2
import Derived.Test.YtbemcminbfhakaaDoorBasisErrorsLaw6
set_option linter.all false
namespace Go.Own
namespace math_bits_Len64
end math_bits_Len64
end Go.Own
