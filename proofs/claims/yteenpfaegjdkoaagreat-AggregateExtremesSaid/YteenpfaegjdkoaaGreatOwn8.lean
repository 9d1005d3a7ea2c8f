/- An interpreter of function bodies without memory, proved sound for the model. No conditions. -/
import Derived.Lib.Bytealg
import Derived.Test.YteenpfaegjdkoaaGreatOwn3
set_option linter.all false
namespace Go.Own
open D
def primWrite (t e:Nat):List D→Option (D×List D)
 | [D.bld t' e' l,D.lit (.string s)]=>if t'=t∧e'=e∧l.length+s.size≤140737488355328 then some (D.tup [D.lit (.int .i64 s.size),D.lit .nilIface],[D.bld t e (l++s.data.toList)]) else none
 | _=>none
def primString (t e:Nat):List D→Option (D×List D)
 | [D.bld t' e' l]=>if t'=t∧e'=e then some (D.lit (.string ⟨l.toArray⟩),[D.box [D.undef,D.undef]]) else none
 | _=>none
def bcmp (a b:ByteArray):Int:=Lib.compareBytes a.data.toList b.data.toList
def primCmp:List D→Option (D×List D)
 | [D.lit (.string a),D.lit (.string b)]=>some (D.lit (.int .i64 (bcmp a b)),[])
 | _=>none
def primClone (k b:Nat):List D→Option (D×List D)
 | [D.sl es]=>if (∀ x∈es,x.length=k)∧es.length*b≤140737488355328 then some (D.own es,[]) else none
 | _=>none
end Go.Own
