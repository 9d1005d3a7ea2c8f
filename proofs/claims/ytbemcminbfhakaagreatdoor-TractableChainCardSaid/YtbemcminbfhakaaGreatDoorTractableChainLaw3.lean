/- What the functions that the law reaches answer. No conditions. -/
import Derived.Test.YtbemcminbfhakaaGreatDoorOwn32
import Derived.Test.YtbemcminbfhakaaGreatDoorBase2
import Derived.Test.YtbemcminbfhakaaGreatDoorBase3
set_option linter.all false
namespace Go.Own
open D
structure TF (P:Program):Prop where
 g3:isAggT P 3=false
 g52:isAggT P 52=false
 s102:structTs P 102=some [31,31]
 u3:P.underlying 3=some (.int .i64)
 u31:P.underlying 31=some (.int .u32)
 u52:P.underlying 52=some (.slice 102)
theorem tf:TF env.P:=⟨by kernel_rfl,by kernel_rfl,by kernel_rfl,by kernel_rfl,by kernel_rfl,by kernel_rfl⟩
def ok_drosslaw42_Pair (x:drosslaw42_Pair):Prop:=(okI .u32) x.Lhs∧(okI .u32) x.Rhs
theorem dec_drosslaw42_Pair {P:Program} (F:TF P) (k:Nat):Dec (Ty P (k+2) 102) ok_drosslaw42_Pair enc_drosslaw42_Pair:=fun ds h=>by
 have h:=ty_struct (k:=k+1) F.s102 h
 simp only [TyTs] at h
 obtain ⟨a0,_,rfl,h0,a1,_,rfl,h1,rfl⟩:=h
 obtain ⟨x0,o0,rfl⟩:=(dec_int (k:=(k+0)) F.u31) a0 h0
 obtain ⟨x1,o1,rfl⟩:=(dec_int (k:=(k+0)) F.u31) a1 h1
 exact ⟨⟨x0,x1⟩,⟨o0,o1⟩,rfl⟩
theorem drosslaw42_TractableChain_args {P:Program} (F:TF P) {xs:List D} (hx:TyAll P 3 [3,52] xs):∃ x0:Int,∃ x1:List drosslaw42_Pair,(okI .i64) x0∧(okL ok_drosslaw42_Pair) x1∧xs=[.lit (.int .i64 x0),.sl (x1.map enc_drosslaw42_Pair)]:=by
 simp only [TyAll] at hx
 obtain ⟨d0,_,rfl,h0,d1,_,rfl,h1,rfl⟩:=hx
 have g0:=tyA_one F.g3 h0
 obtain ⟨x0,o0,e0⟩:=(dec_int (k:=2) F.u3) _ g0
 obtain rfl:=(List.cons.inj e0).1
 have g1:=tyA_one F.g52 h1
 obtain ⟨x1,o1,e1⟩:=(dec_slice (k:=0+2) F.u52 (dec_drosslaw42_Pair F 0)) _ g1
 obtain rfl:=(List.cons.inj e1).1
 exact ⟨x0,x1,o0,o1,rfl⟩
abbrev drosslaw42_TractableChain_F:Nat:=4
abbrev drosslaw42_TractableChain_K:Nat:=3
abbrev drosslaw42_TractableChain_T:List Nat:=[3,52]
theorem drosslaw42_TractableChain_of (h:∀ x0:Int,∀ x1:List drosslaw42_Pair,(okI .i64) x0→(okL ok_drosslaw42_Pair) x1→Ret env 4 [.lit (.int .i64 x0),.sl (x1.map enc_drosslaw42_Pair)] (.lit (.bool true)) []) {xs:List D} (hx:TyAll env.P 3 [3,52] xs):Ret env 4 xs (.lit (.bool true)) []:=by
 obtain ⟨x0,x1,o0,o1,e⟩:=drosslaw42_TractableChain_args (P:=env.P) tf hx
 rw [e]
 exact h x0 x1 o0 o1
end Go.Own
