/- What the functions answer. No conditions. -/
import Derived.Test.YtmiedlcblpiemaaDoorBasisHoldsLaw11
import Derived.Test.YtmiedlcblpiemaaDoorBasisHoldsLaw12
set_option linter.all false
namespace Go.Own
open Go.Sort
namespace q6_
end q6_
section
variable {p:Int->Prop} {lt:Int->Int->Bool} (hC:Asa p lt q48_.C) (hS:SWO lt)
include hC hS
namespace q13_
end q13_
end
end Go.Own
