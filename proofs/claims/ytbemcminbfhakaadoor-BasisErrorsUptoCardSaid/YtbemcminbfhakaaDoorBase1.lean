/- What the interpreter asks of this program, proved. No conditions. -/
import Derived.Test.YtbemcminbfhakaaDoorOwn18
set_option linter.all false
namespace Go.Own
open D
structure drossref09_Dep where
 L:Int
 R:Int
 deriving DecidableEq
structure drossref09_Deps where
 N:Int
 L:List drossref09_Dep
 deriving DecidableEq
structure drossref13_Mixed where
 D:drossref09_Deps
 M:List drossref09_Dep
 deriving DecidableEq
structure api_FD where
 Lhs:Int
 Rhs:Int
 deriving DecidableEq
structure api_MVD where
 Lhs:Int
 Rhs:Int
 deriving DecidableEq
def enc_drossref09_Dep:Enc drossref09_Dep:=fun x=>[.lit (.int .u8 x.L),.lit (.int .u8 x.R)]
def enc_api_FD:Enc api_FD:=fun x=>[.lit (.int .u32 x.Lhs),.lit (.int .u32 x.Rhs)]
def enc_api_MVD:Enc api_MVD:=fun x=>[.lit (.int .u32 x.Lhs),.lit (.int .u32 x.Rhs)]
end Go.Own
