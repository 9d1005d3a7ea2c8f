/- An interpreter of function bodies without memory, proved sound for the model. No conditions. -/
import Derived.ChangeSame
import Derived.RowKit
import Derived.Test.YtbemcminbfhakaaDoorOwn27
set_option linter.all false

namespace Go.Own
open D Go.ChangeShapes Go.RowKit
def TyA (P:Program) (k:Nat) (t:TypeId) (d:D):Prop:=
 match P.underlying t with
 | some (.struct _)=>∃ ds,d=.agg ds∧Ty P k t ds
 | some (.array _ _)=>∃ ds,d=.agg ds∧Ty P k t ds
 | _=>Ty P k t [d]
def TyAll (P:Program) (k:Nat):List TypeId→List D→Prop
 | [],ds=>ds=[]
 | t::ts,ds=>∃ d ds',ds=d::ds'∧TyA P k t d∧TyAll P k ts ds'
theorem lentsT_none {E:Env} {f:Nat}:∀ (ts:List T) (i:Nat),(∀ j,E.mode f j≠.inout)→lentsT E f i ts=[]
 | [],_,_=>rfl
 | t::ts,i,h=>by simp [lentsT,h i,lentsT_none ts (i+1) h]
end Go.Own
