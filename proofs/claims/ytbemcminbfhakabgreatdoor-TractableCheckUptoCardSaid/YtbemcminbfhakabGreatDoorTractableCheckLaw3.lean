/- What the functions that the law reaches answer. No conditions. -/
import Derived.Test.YtbemcminbfhakabGreatDoorOwn32
import Derived.Test.YtbemcminbfhakabGreatDoorBase2
import Derived.Test.YtbemcminbfhakabGreatDoorBase3
set_option linter.all false
namespace Go.Own
open D
def enc_drossref09_Deps:Enc drossref09_Deps:=fun x=>[.lit (.int .u8 x.N),.sl (x.L.map enc_drossref09_Dep)]
structure TF (P:Program):Prop where
 g61:isAggT P 61=true
 g62:isAggT P 62=false
 s102:structTs P 102=some [5,5]
 s51:structTs P 51=some [3,39,39]
 s61:structTs P 61=some [5,25]
 u25:P.underlying 25=some (.slice 102)
 u3:P.underlying 3=some (.int .i64)
 u39:P.underlying 39=some (.int .u32)
 u5:P.underlying 5=some (.int .u8)
 u62:P.underlying 62=some (.slice 51)
theorem tf:TF env.P:=⟨by kernel_rfl,by kernel_rfl,by kernel_rfl,by kernel_rfl,by kernel_rfl,by kernel_rfl,by kernel_rfl,by kernel_rfl,by kernel_rfl,by kernel_rfl⟩
def ok_drossref09_Dep (x:drossref09_Dep):Prop:=(okI .u8) x.L∧(okI .u8) x.R
theorem dec_drossref09_Dep {P:Program} (F:TF P) (k:Nat):Dec (Ty P (k+2) 102) ok_drossref09_Dep enc_drossref09_Dep:=fun ds h=>by
 have h:=ty_struct (k:=k+1) F.s102 h
 simp only [TyTs] at h
 obtain ⟨a0,_,rfl,h0,a1,_,rfl,h1,rfl⟩:=h
 obtain ⟨x0,o0,rfl⟩:=(dec_int (k:=(k+0)) F.u5) a0 h0
 obtain ⟨x1,o1,rfl⟩:=(dec_int (k:=(k+0)) F.u5) a1 h1
 exact ⟨⟨x0,x1⟩,⟨o0,o1⟩,rfl⟩
def ok_drossref09_Deps (x:drossref09_Deps):Prop:=(okI .u8) x.N∧(okL ok_drossref09_Dep) x.L
theorem dec_drossref09_Deps {P:Program} (F:TF P) (k:Nat):Dec (Ty P (k+4) 61) ok_drossref09_Deps enc_drossref09_Deps:=fun ds h=>by
 have h:=ty_struct (k:=k+3) F.s61 h
 simp only [TyTs] at h
 obtain ⟨a0,_,rfl,h0,a1,_,rfl,h1,rfl⟩:=h
 obtain ⟨x0,o0,rfl⟩:=(dec_int (k:=(k+2)) F.u5) a0 h0
 obtain ⟨x1,o1,rfl⟩:=(dec_slice (k:=(k+0)+2) F.u25 (dec_drossref09_Dep F (k+0))) a1 h1
 exact ⟨⟨x0,x1⟩,⟨o0,o1⟩,rfl⟩
def ok_api_Step (x:api_Step):Prop:=(okI .i64) x.Kind∧(okI .u32) x.First∧(okI .u32) x.Second
theorem dec_api_Step {P:Program} (F:TF P) (k:Nat):Dec (Ty P (k+2) 51) ok_api_Step enc_api_Step:=fun ds h=>by
 have h:=ty_struct (k:=k+1) F.s51 h
 simp only [TyTs] at h
 obtain ⟨a0,_,rfl,h0,a1,_,rfl,h1,a2,_,rfl,h2,rfl⟩:=h
 obtain ⟨x0,o0,rfl⟩:=(dec_int (k:=(k+0)) F.u3) a0 h0
 obtain ⟨x1,o1,rfl⟩:=(dec_int (k:=(k+0)) F.u39) a1 h1
 obtain ⟨x2,o2,rfl⟩:=(dec_int (k:=(k+0)) F.u39) a2 h2
 exact ⟨⟨x0,x1,x2⟩,⟨o0,o1,o2⟩,rfl⟩
theorem drosslaw42_TractableCheck_args {P:Program} (F:TF P) {xs:List D} (hx:TyAll P 4 [61,62] xs):∃ x0:drossref09_Deps,∃ x1:List api_Step,ok_drossref09_Deps x0∧(okL ok_api_Step) x1∧xs=[.agg (enc_drossref09_Deps x0),.sl (x1.map enc_api_Step)]:=by
 simp only [TyAll] at hx
 obtain ⟨d0,_,rfl,h0,d1,_,rfl,h1,rfl⟩:=hx
 obtain ⟨c0,rfl,g0⟩:=tyA_agg F.g61 h0
 obtain ⟨x0,o0,rfl⟩:=(dec_drossref09_Deps F 0) c0 g0
 have g1:=tyA_one F.g62 h1
 obtain ⟨x1,o1,e1⟩:=(dec_slice (k:=1+2) F.u62 (dec_api_Step F 1)) _ g1
 obtain rfl:=(List.cons.inj e1).1
 exact ⟨x0,x1,o0,o1,rfl⟩
abbrev drosslaw42_TractableCheck_F:Nat:=6
abbrev drosslaw42_TractableCheck_K:Nat:=4
abbrev drosslaw42_TractableCheck_T:List Nat:=[61,62]
end Go.Own
