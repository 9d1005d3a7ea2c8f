/- What the functions that the law reaches answer. No conditions. -/
import Derived.Test.YtihmcekogopcfaaOwn33
import Derived.Test.YtihmcekogopcfaaBase2
import Derived.Test.YtihmcekogopcfaaBase3
set_option linter.all false
namespace Go.Own
open D
structure TF (P:Program):Prop where
 a112:arrayT P 112=some (3,5)
 g36:isAggT P 36=false
 g40:isAggT P 40=true
 g58:isAggT P 58=false
 g67:isAggT P 67=true
 g70:isAggT P 70=true
 g80:isAggT P 80=false
 s26:structTs P 26=some [9,23,24]
 s28:structTs P 28=some [3,2,9]
 s31:structTs P 31=some [2,29]
 s40:structTs P 40=some [26,36,38,3,3]
 s48:structTs P 48=some [3,3,28]
 s67:structTs P 67=some [5,5,65]
 s70:structTs P 70=some [68,5,5]
 u2:P.underlying 2=some (.int .i64)
 u23:P.underlying 23=some (.slice 9)
 u24:P.underlying 24=some (.slice 31)
 u29:P.underlying 29=some (.slice 28)
 u3:P.underlying 3=some (.int .i64)
 u36:P.underlying 36=some (.int .u32)
 u38:P.underlying 38=some (.slice 48)
 u5:P.underlying 5=some (.int .u8)
 u58:P.underlying 58=some (.slice 2)
 u65:P.underlying 65=some (.slice 80)
 u68:P.underlying 68=some (.slice 112)
 u80:P.underlying 80=some (.slice 5)
 u9:P.underlying 9=some .string
theorem tf:TF env.P:=⟨by kernel_rfl,by kernel_rfl,by kernel_rfl,by kernel_rfl,by kernel_rfl,by kernel_rfl,by kernel_rfl,by kernel_rfl,by kernel_rfl,by kernel_rfl,by kernel_rfl,by kernel_rfl,by kernel_rfl,by kernel_rfl,by kernel_rfl,by kernel_rfl,by kernel_rfl,by kernel_rfl,by kernel_rfl,by kernel_rfl,by kernel_rfl,by kernel_rfl,by kernel_rfl,by kernel_rfl,by kernel_rfl,by kernel_rfl,by kernel_rfl⟩
theorem drosslaw51_AggregateSums_args {P:Program} (F:TF P) {xs:List D} (hx:TyAll P 2 [58,80] xs):∃ x0:List Int,∃ x1:List Int,(okL (okI .i64)) x0∧(okL (okI .u8)) x1∧xs=[.sl (x0.map (eI .i64)),.sl (x1.map (eI .u8))]:=by
 simp only [TyAll] at hx
 obtain ⟨d0,_,rfl,h0,d1,_,rfl,h1,rfl⟩:=hx
 have g0:=tyA_one F.g58 h0
 obtain ⟨x0,o0,e0⟩:=(dec_slice (k:=0+1) F.u58 (dec_int (k:=0) F.u2)) _ g0
 obtain rfl:=(List.cons.inj e0).1
 have g1:=tyA_one F.g80 h1
 obtain ⟨x1,o1,e1⟩:=(dec_slice (k:=0+1) F.u80 (dec_int (k:=0) F.u5)) _ g1
 obtain rfl:=(List.cons.inj e1).1
 exact ⟨x0,x1,o0,o1,rfl⟩
abbrev drosslaw51_AggregateSums_F:Nat:=7
abbrev drosslaw51_AggregateSums_K:Nat:=2
abbrev drosslaw51_AggregateSums_T:List Nat:=[58,80]
theorem drosslaw51_AggregateSums_of (h:∀ x0:List Int,∀ x1:List Int,(okL (okI .i64)) x0→(okL (okI .u8)) x1→Ret env 7 [.sl (x0.map (eI .i64)),.sl (x1.map (eI .u8))] (.lit (.bool true)) []) {xs:List D} (hx:TyAll env.P 2 [58,80] xs):Ret env 7 xs (.lit (.bool true)) []:=by
 obtain ⟨x0,x1,o0,o1,e⟩:=drosslaw51_AggregateSums_args (P:=env.P) tf hx
 rw [e]
 exact h x0 x1 o0 o1
end Go.Own
