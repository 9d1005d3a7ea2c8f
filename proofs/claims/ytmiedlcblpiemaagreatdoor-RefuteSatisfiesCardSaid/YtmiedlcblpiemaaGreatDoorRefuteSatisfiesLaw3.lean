/- What the functions answer. No conditions. -/
import Derived.Sort.AssemblyPlain
import Derived.Sort.LotC
import Derived.Sort.LotD3
import Derived.Test.YtmiedlcblpiemaaGreatDoorBase2
set_option linter.all false
namespace Go.Own
open Go.Sort
def AllA (p:Int->Prop) (d:Array Int):Prop:=∀ i,i<d.size->p d[i]!
structure Okd (d d':Array Int):Prop where
 size:d'.size=d.size
 all:∀ p,AllA p d->AllA p d'
section
variable {p:Int->Prop} {lt:Int->Int->Bool} {C:Int->Int->Int->Prop}
end
end Go.Own
