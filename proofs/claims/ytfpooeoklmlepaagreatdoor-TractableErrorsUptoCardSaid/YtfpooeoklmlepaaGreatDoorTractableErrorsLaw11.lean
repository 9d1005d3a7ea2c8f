/- No conditions. -/
import Derived.Test.YtfpooeoklmlepaaGreatDoorTractableErrorsLaw8
import Derived.Test.YtfpooeoklmlepaaGreatDoorTractableErrorsLaw9
set_option linter.all false
namespace Go.Own
open Go.Sort
section
variable {p:Int->Prop} {lt:Int->Int->Bool} (hC:Ak6 p lt q87_.C) (hS:SWO lt)
include hC hS
end
end Go.Own
