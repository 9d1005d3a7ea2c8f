/- What the interpreter asks of this program, proved. No conditions. -/
import Derived.Test.YteenpfaegjdkoaaGreatOwn18
set_option linter.all false
namespace Go.Own
open D
structure api_Value where
 Kind:Int
 Num:Int
 Str:ByteArray
 deriving DecidableEq
structure api_Row where
 ID:Int
 Values:List api_Value
 deriving DecidableEq
structure api_Table where
 Name:ByteArray
 Attrs:List ByteArray
 Rows:List api_Row
 deriving DecidableEq
structure api_Condition where
 Attr:Int
 Op:Int
 Value:api_Value
 deriving DecidableEq
structure drosslaw51_Job where
 T:api_Table
 Key:Int
 L:List api_Condition
 Kind:Int
 Attr:Int
 deriving DecidableEq
structure api_Range where
 Least:api_Value
 Greatest:api_Value
 Some:Bool
 Every:Bool
 deriving DecidableEq
structure aggregate_total where
 high:Int
 low:Int
 deriving DecidableEq
structure aggregate_group where
 ids:List Int
 ok:Bool
 value:api_Value
 sum:aggregate_total
 deriving DecidableEq
structure drossref51_Total where
 High:Int
 Low:Int
 deriving DecidableEq
structure drossref51_Result where
 Value:api_Value
 Sum:drossref51_Total
 OK:Bool
 deriving DecidableEq
structure drossref51_Bounds where
 Least:drossref51_Result
 Greatest:drossref51_Result
 Some:Bool
 Every:Bool
 deriving DecidableEq
def enc_api_Value:Enc api_Value:=fun x=>[.lit (.int .i64 x.Kind),.lit (.int .i64 x.Num),.lit (.string x.Str)]
def enc_api_Row:Enc api_Row:=fun x=>[.lit (.int .i64 x.ID),.sl (x.Values.map enc_api_Value)]
def enc_api_Condition:Enc api_Condition:=fun x=>[.lit (.int .i64 x.Attr),.lit (.int .i64 x.Op),.lit (.int .i64 x.Value.Kind),.lit (.int .i64 x.Value.Num),.lit (.string x.Value.Str)]
def enc_aggregate_group:Enc aggregate_group:=fun x=>[.own (x.ids.map (eI .i64)),.lit (.bool x.ok),.lit (.int .i64 x.value.Kind),.lit (.int .i64 x.value.Num),.lit (.string x.value.Str),.lit (.int .i64 x.sum.high),.lit (.int .i64 x.sum.low)]
def enc_aggregate_group_2:Enc aggregate_group:=fun x=>[.sl (x.ids.map (eI .i64)),.lit (.bool x.ok),.lit (.int .i64 x.value.Kind),.lit (.int .i64 x.value.Num),.lit (.string x.value.Str),.lit (.int .i64 x.sum.high),.lit (.int .i64 x.sum.low)]
def enc_api_Row_2:Enc api_Row:=fun x=>[.lit (.int .i64 x.ID),.own (x.Values.map enc_api_Value)]
end Go.Own
