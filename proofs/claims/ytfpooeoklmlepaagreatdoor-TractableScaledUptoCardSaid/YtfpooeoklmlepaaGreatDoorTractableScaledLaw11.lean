/- No conditions. -/
import Derived.Test.YtfpooeoklmlepaaGreatDoorTractableScaledLaw8
import Derived.Test.YtfpooeoklmlepaaGreatDoorTractableScaledLaw9
set_option linter.all false
namespace Go.Own
open Go.Sort
section
variable {p:Int->Prop} {lt:Int->Int->Bool} (hC:Aka p lt q87_.C) (hS:SWO lt)
include hC hS
end
end Go.Own
