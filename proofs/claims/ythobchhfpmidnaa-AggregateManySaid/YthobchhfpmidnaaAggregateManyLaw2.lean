/- What the functions that the law reaches answer. No conditions. -/
import Derived.Test.YthobchhfpmidnaaOwn33
import Derived.Test.YthobchhfpmidnaaBase2
import Derived.Test.YthobchhfpmidnaaBase3
set_option linter.all false
namespace Go.Own
open D
structure TF (P:Program):Prop where
 g5:isAggT P 5=false
 u5:P.underlying 5=some (.int .u8)
theorem tf:TF env.P:=⟨by kernel_rfl,by kernel_rfl⟩
theorem drosslaw51_AggregateMany_args {P:Program} (F:TF P) {xs:List D} (hx:TyAll P 1 [5,5] xs):∃ x0:Int,∃ x1:Int,(okI .u8) x0∧(okI .u8) x1∧xs=[.lit (.int .u8 x0),.lit (.int .u8 x1)]:=by
 simp only [TyAll] at hx
 obtain ⟨d0,_,rfl,h0,d1,_,rfl,h1,rfl⟩:=hx
 have g0:=tyA_one F.g5 h0
 obtain ⟨x0,o0,e0⟩:=(dec_int (k:=0) F.u5) _ g0
 obtain rfl:=(List.cons.inj e0).1
 have g1:=tyA_one F.g5 h1
 obtain ⟨x1,o1,e1⟩:=(dec_int (k:=0) F.u5) _ g1
 obtain rfl:=(List.cons.inj e1).1
 exact ⟨x0,x1,o0,o1,rfl⟩
abbrev drosslaw51_AggregateMany_F:Nat:=3
abbrev drosslaw51_AggregateMany_K:Nat:=1
abbrev drosslaw51_AggregateMany_T:List Nat:=[5,5]
theorem drosslaw51_AggregateMany_of (h:∀ x0:Int,∀ x1:Int,(okI .u8) x0→(okI .u8) x1→Ret env 3 [.lit (.int .u8 x0),.lit (.int .u8 x1)] (.lit (.bool true)) []) {xs:List D} (hx:TyAll env.P 1 [5,5] xs):Ret env 3 xs (.lit (.bool true)) []:=by
 obtain ⟨x0,x1,o0,o1,e⟩:=drosslaw51_AggregateMany_args (P:=env.P) tf hx
 rw [e]
 exact h x0 x1 o0 o1
end Go.Own
