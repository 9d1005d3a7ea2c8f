/- An interpreter of function bodies without memory, proved sound for the model. No conditions. -/
import Derived.Lib.Strings
import Derived.Test.YtbemcminbfhakaaDoorOwn27
import Derived.Test.YtbemcminbfhakaaDoorOwn30
import Derived.Test.YtbemcminbfhakaaDoorOwn33
set_option linter.all false
namespace Go.Own
open D Go.ChangeShapes Go.RowKit Go.WideShapes
structure Bulk (H:Type) where
 B:DataW H→Nat
 one:∀ d,1≤B d
 str:∀ bytes,bytes.length+1≤B (.lit (.string bytes))
 slice:∀ es sp,(es.map B).sum+1≤B (.slice es sp)
 agg:∀ ps,(ps.map B).sum+1≤B (.agg ps)
end Go.Own
