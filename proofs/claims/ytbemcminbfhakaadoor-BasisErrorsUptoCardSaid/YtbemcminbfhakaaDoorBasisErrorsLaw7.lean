/- What the functions that the law reaches answer. No conditions. -/
import Derived.Test.YtbemcminbfhakaaDoorBasisErrorsLaw1
import Derived.Test.YtbemcminbfhakaaDoorBasisErrorsLaw6
set_option linter.all false
namespace Go.Own
open Go.Sort
section
variable {p:Int→Prop} {lt:Int→Int→Bool} (hC:CmpOK p lt attrset_compare.C)
include hC
namespace slices_insertionSortCmpFunc_api_Set_attrset_compare
end slices_insertionSortCmpFunc_api_Set_attrset_compare
namespace slices_siftDownCmpFunc_api_Set_attrset_compare
end slices_siftDownCmpFunc_api_Set_attrset_compare
namespace slices_heapSortCmpFunc_api_Set_attrset_compare
end slices_heapSortCmpFunc_api_Set_attrset_compare
end
end Go.Own
namespace Go.Own
open Go.Sort
section
variable {p:Int→Prop} {lt:Int→Int→Bool} (hC:CmpOK p lt attrset_compare.C)
include hC
namespace slices_partialInsertionSortCmpFunc_api_Set_attrset_compare
end slices_partialInsertionSortCmpFunc_api_Set_attrset_compare
end
end Go.Own
namespace Go.Own
open Go.Sort
section
variable {p:Int→Prop} {lt:Int→Int→Bool} (hC:CmpOK p lt attrset_compare.C)
include hC
namespace slices_partitionCmpFunc_api_Set_attrset_compare
end slices_partitionCmpFunc_api_Set_attrset_compare
namespace slices_partitionEqualCmpFunc_api_Set_attrset_compare
end slices_partitionEqualCmpFunc_api_Set_attrset_compare
end
end Go.Own
