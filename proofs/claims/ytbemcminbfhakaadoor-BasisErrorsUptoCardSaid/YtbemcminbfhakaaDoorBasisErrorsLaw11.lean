/- What the functions that the law reaches answer. No conditions. -/
import Derived.Test.YtbemcminbfhakaaDoorBasisErrorsLaw4
import Derived.Test.YtbemcminbfhakaaDoorBasisErrorsLaw9
import Derived.Test.YtbemcminbfhakaaDoorBasisErrorsLaw10
import Derived.Test.YtbemcminbfhakaaDoorBasisErrorsLaw6
import Derived.Test.YtbemcminbfhakaaDoorBasisErrorsLaw1
import Derived.Test.YtbemcminbfhakaaDoorBase1
import Derived.Test.YtbemcminbfhakaaDoorOwn25
set_option linter.all false
namespace Go.Own
end Go.Own
namespace Go.Own
namespace slices_Compact_sapi_Set_api_Set
end slices_Compact_sapi_Set_api_Set
end Go.Own
namespace Go.Own
end Go.Own
namespace Go.Own
end Go.Own
namespace Go.Own
theorem pow16 {n:Nat} (hn:n≤16):2^n≤65536∧0<2^n:=⟨Nat.pow_le_pow_right (n:=2) (by omega) hn,Nat.pow_pos (by omega)⟩
end Go.Own
namespace Go.Own
theorem full_small {n:Nat} (hn:n≤16):fullN n=2^n-1:=by unfold fullN;rw [Nat.min_eq_left (by omega)]
end Go.Own
namespace Go.Own
theorem full_spec {n:Nat} (hn:n≤16):drossref02_Full.C n ((2^n-1:Nat):Int):=by
 rw [← full_small hn];exact drossref02_Full.spec
end Go.Own
