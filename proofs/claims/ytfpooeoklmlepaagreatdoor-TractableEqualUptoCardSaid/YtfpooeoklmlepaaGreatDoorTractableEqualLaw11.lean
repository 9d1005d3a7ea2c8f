/- No conditions. -/
import Derived.Test.YtfpooeoklmlepaaGreatDoorTractableEqualLaw8
import Derived.Test.YtfpooeoklmlepaaGreatDoorTractableEqualLaw9
set_option linter.all false
namespace Go.Own
open Go.Sort
section
variable{p:Int->Prop}{lt:Int->Int->Bool}(hC:Akc p lt q91_.C)(hS:SWO lt)
include hC hS
end
end Go.Own
