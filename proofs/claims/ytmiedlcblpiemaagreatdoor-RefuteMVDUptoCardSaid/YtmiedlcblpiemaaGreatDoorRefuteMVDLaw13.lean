/- What the functions answer. No conditions. -/
import Derived.Test.YtmiedlcblpiemaaGreatDoorRefuteMVDLaw10
import Derived.Test.YtmiedlcblpiemaaGreatDoorRefuteMVDLaw11
set_option linter.all false
namespace Go.Own
open Go.Sort
section
variable{p:Int->Prop}{lt:Int->Int->Bool}(hC:Alo p lt q75_.C)(hS:SWO lt)
include hC hS
end
end Go.Own
