/- What the interpreter asks of this program, proved. No conditions. -/
import Derived.Test.YtbemcminbfhakaaGreatDoorOwn18
set_option linter.all false
namespace Go.Own
open D
structure drosslaw42_Pair where
 Lhs:Int
 Rhs:Int
 deriving DecidableEq
structure api_FD where
 Lhs:Int
 Rhs:Int
 deriving DecidableEq
structure api_Step where
 Kind:Int
 First:Int
 Second:Int
 deriving DecidableEq
def enc_drosslaw42_Pair:Enc drosslaw42_Pair:=fun x=>[.lit (.int .u32 x.Lhs),.lit (.int .u32 x.Rhs)]
def enc_api_FD:Enc api_FD:=fun x=>[.lit (.int .u32 x.Lhs),.lit (.int .u32 x.Rhs)]
def enc_api_Step:Enc api_Step:=fun x=>[.lit (.int .i64 x.Kind),.lit (.int .u32 x.First),.lit (.int .u32 x.Second)]
end Go.Own
