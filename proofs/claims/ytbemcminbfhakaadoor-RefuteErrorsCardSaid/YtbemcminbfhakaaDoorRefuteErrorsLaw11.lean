/- What the functions that the law reaches answer. No conditions. -/
import Derived.Test.YtbemcminbfhakaaDoorRefuteErrorsLaw8
import Derived.Test.YtbemcminbfhakaaDoorRefuteErrorsLaw9
import Derived.Test.YtbemcminbfhakaaDoorRefuteErrorsLaw3
import Derived.Test.YtbemcminbfhakaaDoorRefuteErrorsLaw7
set_option linter.all false
namespace Go.Own
open Go.Sort
namespace slices_breakPatternsCmpFunc_api_Set_attrset_compare
end slices_breakPatternsCmpFunc_api_Set_attrset_compare
section
variable {p:Int→Prop} {lt:Int→Int→Bool} (hC:CmpOK p lt attrset_compare.C) (hS:SWO lt)
include hC hS
namespace slices_pdqsortCmpFunc_api_Set_attrset_compare
end slices_pdqsortCmpFunc_api_Set_attrset_compare
end
end Go.Own
