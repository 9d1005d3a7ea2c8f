/- What the functions that the law reaches answer. No conditions. -/
import Derived.Test.YtbemcminbfhakabGreatDoorOwn32
import Derived.Test.YtbemcminbfhakabGreatDoorBase2
import Derived.Test.YtbemcminbfhakabGreatDoorBase3
set_option linter.all false
namespace Go.Own
open D
def enc_api_Step:Enc api_Step:=fun x=>[.lit (.int .i64 x.Kind),.lit (.int .u32 x.First),.lit (.int .u32 x.Second)]
structure TF (P:Program):Prop where
 g48:isAggT P 48=false
 g51:isAggT P 51=true
 s51:structTs P 51=some [3,39,39]
 s92:structTs P 92=some [38,38]
 u3:P.underlying 3=some (.int .i64)
 u38:P.underlying 38=some (.int .u32)
 u39:P.underlying 39=some (.int .u32)
 u48:P.underlying 48=some (.slice 92)
theorem tf:TF env.P:=⟨by kernel_rfl,by kernel_rfl,by kernel_rfl,by kernel_rfl,by kernel_rfl,by kernel_rfl,by kernel_rfl,by kernel_rfl⟩
def ok_drosslaw42_Pair (x:drosslaw42_Pair):Prop:=(okI .u32) x.Lhs∧(okI .u32) x.Rhs
theorem dec_drosslaw42_Pair {P:Program} (F:TF P) (k:Nat):Dec (Ty P (k+2) 92) ok_drosslaw42_Pair enc_drosslaw42_Pair:=fun ds h=>by
 have h:=ty_struct (k:=k+1) F.s92 h
 simp only [TyTs] at h
 obtain ⟨a0,_,rfl,h0,a1,_,rfl,h1,rfl⟩:=h
 obtain ⟨x0,o0,rfl⟩:=(dec_int (k:=(k+0)) F.u38) a0 h0
 obtain ⟨x1,o1,rfl⟩:=(dec_int (k:=(k+0)) F.u38) a1 h1
 exact ⟨⟨x0,x1⟩,⟨o0,o1⟩,rfl⟩
def ok_api_Step (x:api_Step):Prop:=(okI .i64) x.Kind∧(okI .u32) x.First∧(okI .u32) x.Second
theorem dec_api_Step {P:Program} (F:TF P) (k:Nat):Dec (Ty P (k+2) 51) ok_api_Step enc_api_Step:=fun ds h=>by
 have h:=ty_struct (k:=k+1) F.s51 h
 simp only [TyTs] at h
 obtain ⟨a0,_,rfl,h0,a1,_,rfl,h1,a2,_,rfl,h2,rfl⟩:=h
 obtain ⟨x0,o0,rfl⟩:=(dec_int (k:=(k+0)) F.u3) a0 h0
 obtain ⟨x1,o1,rfl⟩:=(dec_int (k:=(k+0)) F.u39) a1 h1
 obtain ⟨x2,o2,rfl⟩:=(dec_int (k:=(k+0)) F.u39) a2 h2
 exact ⟨⟨x0,x1,x2⟩,⟨o0,o1,o2⟩,rfl⟩
theorem drosslaw42_TractableApply_args {P:Program} (F:TF P) {xs:List D} (hx:TyAll P 3 [48,51] xs):∃ x0:List drosslaw42_Pair,∃ x1:api_Step,(okL ok_drosslaw42_Pair) x0∧ok_api_Step x1∧xs=[.sl (x0.map enc_drosslaw42_Pair),.agg (enc_api_Step x1)]:=by
 simp only [TyAll] at hx
 obtain ⟨d0,_,rfl,h0,d1,_,rfl,h1,rfl⟩:=hx
 have g0:=tyA_one F.g48 h0
 obtain ⟨x0,o0,e0⟩:=(dec_slice (k:=0+2) F.u48 (dec_drosslaw42_Pair F 0)) _ g0
 obtain rfl:=(List.cons.inj e0).1
 obtain ⟨c1,rfl,g1⟩:=tyA_agg F.g51 h1
 obtain ⟨x1,o1,rfl⟩:=(dec_api_Step F 1) c1 g1
 exact ⟨x0,x1,o0,o1,rfl⟩
abbrev drosslaw42_TractableApply_F:Nat:=5
abbrev drosslaw42_TractableApply_K:Nat:=3
abbrev drosslaw42_TractableApply_T:List Nat:=[48,51]
theorem drosslaw42_TractableApply_of (h:∀ x0:List drosslaw42_Pair,∀ x1:api_Step,(okL ok_drosslaw42_Pair) x0→ok_api_Step x1→Ret env 5 [.sl (x0.map enc_drosslaw42_Pair),.agg (enc_api_Step x1)] (.lit (.bool true)) []) {xs:List D} (hx:TyAll env.P 3 [48,51] xs):Ret env 5 xs (.lit (.bool true)) []:=by
 obtain ⟨x0,x1,o0,o1,e⟩:=drosslaw42_TractableApply_args (P:=env.P) tf hx
 rw [e]
 exact h x0 x1 o0 o1
end Go.Own
