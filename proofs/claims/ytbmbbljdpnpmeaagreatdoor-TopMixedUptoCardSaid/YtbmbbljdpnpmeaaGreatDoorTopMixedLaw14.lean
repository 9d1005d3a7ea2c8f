/- No conditions. -/
import Derived.Test.YtbmbbljdpnpmeaaGreatDoorTopMixedLaw11
import Derived.Test.YtbmbbljdpnpmeaaGreatDoorTopMixedLaw12
set_option linter.all false
namespace Go.Own
open Go.Sort
section
variable {p:Int->Prop} {lt:Int->Int->Bool} (hC:Akx p lt q37_.C) (hS:SWO lt)
include hC hS
end
end Go.Own
