/- What the interpreter asks of this program, proved. No conditions. -/
import Derived.Test.YtpllikglkjiciaaDoorOwn15
set_option linter.all false

namespace Go.Own
open D
structure api_FD where
  Lhs : Int
  Rhs : Int
  deriving DecidableEq
structure api_MVD where
  Lhs : Int
  Rhs : Int
  deriving DecidableEq
def enc_api_FD : Enc api_FD := fun x => [.lit (.int .u32 x.Lhs), .lit (.int .u32 x.Rhs)]
def enc_api_MVD : Enc api_MVD := fun x => [.lit (.int .u32 x.Lhs), .lit (.int .u32 x.Rhs)]
end Go.Own
