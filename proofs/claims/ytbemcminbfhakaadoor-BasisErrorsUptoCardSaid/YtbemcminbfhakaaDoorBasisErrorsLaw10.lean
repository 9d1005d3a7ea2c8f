/- What the functions that the law reaches answer. No conditions. -/
import Derived.Test.YtbemcminbfhakaaDoorBasisErrorsLaw7
import Derived.Test.YtbemcminbfhakaaDoorBasisErrorsLaw8
import Derived.Test.YtbemcminbfhakaaDoorBasisErrorsLaw2
import Derived.Test.YtbemcminbfhakaaDoorBasisErrorsLaw6
set_option linter.all false
namespace Go.Own
open Go.Sort
namespace slices_breakPatternsCmpFunc_api_Set_attrset_compare
end slices_breakPatternsCmpFunc_api_Set_attrset_compare
section
variable {p:Int→Prop} {lt:Int→Int→Bool} (hC:CmpOK p lt attrset_compare.C) (hS:SWO lt)
include hC hS
namespace slices_pdqsortCmpFunc_api_Set_attrset_compare
end slices_pdqsortCmpFunc_api_Set_attrset_compare
end
end Go.Own
