/- An interpreter of function bodies, sound. No conditions. -/
import Derived.Test.YtockohmmmlhhfabGreatDoorOwn14
set_option linter.all false
namespace Go.Own
open D
section
variable {E:Env} {f:Nat} {V:List Nat} {F F':Fr} {Q:Ex->Fr->Prop} {body:Code} {p p':List Nat} {j:Nat} {s:St}
end
end Go.Own
