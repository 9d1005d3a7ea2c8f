/- No conditions. -/
import Derived.Test.YtfpooeoklmlepaaGreatDoorTractableSolveLaw8
import Derived.Test.YtfpooeoklmlepaaGreatDoorTractableSolveLaw9
set_option linter.all false
namespace Go.Own
open Go.Sort
section
variable{p:Int->Prop}{lt:Int->Int->Bool}(hC:Akf p lt q88_.C)(hS:SWO lt)
include hC hS
end
end Go.Own
