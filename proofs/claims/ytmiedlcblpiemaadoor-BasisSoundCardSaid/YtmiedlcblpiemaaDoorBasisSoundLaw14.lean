/- What the functions answer. No conditions. -/
import Derived.Test.YtmiedlcblpiemaaDoorBasisSoundLaw11
import Derived.Test.YtmiedlcblpiemaaDoorBasisSoundLaw12
set_option linter.all false
namespace Go.Own
open Go.Sort
namespace q6_
end q6_
section
variable {p:Int->Prop} {lt:Int->Int->Bool} (hC:Ajz p lt q52_.C) (hS:SWO lt)
include hC hS
namespace q14_
end q14_
end
end Go.Own
