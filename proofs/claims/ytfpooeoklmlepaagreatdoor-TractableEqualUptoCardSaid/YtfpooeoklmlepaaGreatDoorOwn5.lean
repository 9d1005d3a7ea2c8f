/- No conditions. -/
import Derived.Test.YtfpooeoklmlepaaGreatDoorOwn4
set_option linter.all false
namespace Go.Own
open D
section
variable{E:Env}{f:Nat}{V:List Nat}{call:Abf}{F F1 F2:Fr}{o:Oper}
end
end Go.Own
