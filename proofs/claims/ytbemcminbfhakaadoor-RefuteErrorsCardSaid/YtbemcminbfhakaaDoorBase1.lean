/- What the interpreter asks of this program, proved. No conditions. -/
import Derived.Test.YtbemcminbfhakaaDoorOwn18
set_option linter.all false
namespace Go.Own
open D
structure api_FD where
 Lhs:Int
 Rhs:Int
 deriving DecidableEq
structure api_Value where
 Kind:Int
 Num:Int
 Str:ByteArray
 deriving DecidableEq
structure api_Row where
 ID:Int
 Values:List api_Value
 deriving DecidableEq
structure api_Table where
 Name:ByteArray
 Attrs:List ByteArray
 Rows:List api_Row
 deriving DecidableEq
structure api_MVD where
 Lhs:Int
 Rhs:Int
 deriving DecidableEq
def enc_api_FD:Enc api_FD:=fun x=>[.lit (.int .u32 x.Lhs),.lit (.int .u32 x.Rhs)]
def enc_api_Value:Enc api_Value:=fun x=>[.lit (.int .i64 x.Kind),.lit (.int .i64 x.Num),.lit (.string x.Str)]
def enc_api_Row:Enc api_Row:=fun x=>[.lit (.int .i64 x.ID),.own (x.Values.map enc_api_Value)]
def enc_api_MVD:Enc api_MVD:=fun x=>[.lit (.int .u32 x.Lhs),.lit (.int .u32 x.Rhs)]
def enc_api_Row_2:Enc api_Row:=fun x=>[.lit (.int .i64 x.ID),.sl (x.Values.map enc_api_Value)]
end Go.Own
