/- An interpreter of function bodies, sound. No conditions. -/
import Derived.Lib.AppendStr
import Derived.Lib.Builder
import Derived.Lib.Bytealg
import Derived.Test.YtockohmmmlhhfabGreatDoorOwn3
set_option linter.all false

namespace Go.Own
open Go.Lib Go.RowKit
end Go.Own
namespace Go.Own
open D
def Bh7 (t e:Nat):List D->Option (D×List D)
 | [D.bld t' e' l,D.lit (.string s)]=>if t'=t/\e'=e/\l.length+s.size<=140737488355328 then some (D.tup [D.lit (.int .i64 s.size),D.lit .nilIface],[D.bld t e (l++s.data.toList)]) else none
 | _=>none
def Aei (x:Nat):Nat->Nat->Nat
 | 0,k=>k
 | n+1,k=>if x.testBit k then k else Aei x n (k+1)
def Amu:List D->Option (D×List D)
 | [D.lit (.int .u32 n)]=>if 0<=n/\n<4294967296 then some (D.lit (.int .i64 (Aei n.toNat 32 0)),[]) else none
 | _=>none
def bcmp (a b:ByteArray):Int:=Lib.compareBytes a.data.toList b.data.toList
def Anw:List D->Option (D×List D)
 | [D.lit (.string a),D.lit (.string b)]=>some (D.lit (.int .i64 (bcmp a b)),[])
 | _=>none
def Ag9 (k b:Nat):List D->Option (D×List D)
 | [D.sl es]=>if (∀ x∈es,x.length=k)/\es.length*b<=140737488355328 then some (D.own es,[]) else none
 | _=>none
end Go.Own
