/- An interpreter of function bodies, sound. No conditions. -/
import Derived.Lib.AppendStr
import Derived.Lib.Builder
import Derived.Lib.Bytealg
import Derived.Test.YtmiedlcblpiemaaDoorOwn3
set_option linter.all false

namespace Go.Own
open Go.Lib Go.RowKit
end Go.Own
namespace Go.Own
open D
def Bis (t e:Nat):List D->Option (D×List D)
 | [D.bld t' e' l,D.lit (.string s)]=>if t'=t/\e'=e/\l.length+s.size<=140737488355328 then some (D.tup [D.lit (.int .i64 s.size),D.lit .nilIface],[D.bld t e (l++s.data.toList)]) else none
 | _=>none
def Ac6 (x:Nat):Nat->Nat->Nat
 | 0,k=>k
 | n+1,k=>if x.testBit k then k else Ac6 x n (k+1)
def Aid:List D->Option (D×List D)
 | [D.lit (.int .u32 n)]=>if 0<=n/\n<4294967296 then some (D.lit (.int .i64 (Ac6 n.toNat 32 0)),[]) else none
 | _=>none
def Aic (k b:Nat):List D->Option (D×List D)
 | [D.sl es]=>if (∀ x∈es,x.length=k)/\es.length*b<=140737488355328 then some (D.own es,[]) else none
 | _=>none
end Go.Own
