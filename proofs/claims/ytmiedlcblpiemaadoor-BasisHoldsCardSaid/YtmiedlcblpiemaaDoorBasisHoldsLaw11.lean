/- What the functions answer. No conditions. -/
import Derived.Test.YtmiedlcblpiemaaDoorBasisHoldsLaw4
import Derived.Test.YtmiedlcblpiemaaDoorBasisHoldsLaw10
set_option linter.all false
namespace Go.Own
open Go.Sort
section
variable {p:Int->Prop} {lt:Int->Int->Bool} (hC:Asa p lt q48_.C)
include hC
namespace q5_
end q5_
namespace q11_
end q11_
namespace q12_
end q12_
end
open Go.Sort
section
variable {p:Int->Prop} {lt:Int->Int->Bool} (hC:Asa p lt q48_.C)
include hC
namespace q1_
end q1_
end
open Go.Sort
section
variable {p:Int->Prop} {lt:Int->Int->Bool} (hC:Asa p lt q48_.C)
include hC
namespace q10_
end q10_
namespace q3_
end q3_
end
end Go.Own
