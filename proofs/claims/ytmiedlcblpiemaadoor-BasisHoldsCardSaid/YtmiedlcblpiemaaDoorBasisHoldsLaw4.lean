/- What the functions answer. No conditions. -/
import Derived.Sort.AssemblyPlain
import Derived.Sort.LotC
import Derived.Sort.LotD3
import Derived.Test.YtmiedlcblpiemaaDoorOwn27
set_option linter.all false
namespace Go.Own
open Go.Sort
def AllA (p:Int->Prop) (d:Array Int):Prop:=∀ i,i<d.size->p d[i]!
theorem ag {d:Array Int} {i:Nat} (h:i<d.size):lget d.toList (i:Int)=some d[i]!:=by
 rw [Anv,Array.getElem?_toList,Array.getElem?_eq_getElem h,getElem!_pos d i h]
structure Okd (d d':Array Int):Prop where
 size:d'.size=d.size
 all:∀ p,AllA p d->AllA p d'
section
variable {p:Int->Prop} {lt:Int->Int->Bool} {C:Int->Int->Int->Prop}
def Asa (p:Int->Prop) (lt:Int->Int->Bool) (C:Int->Int->Int->Prop):Prop:=∀ x y,p x->p y->∃ r,C x y r/\(r<0↔lt x y=true)
end
end Go.Own
