/- What the functions that the law reaches answer. No conditions. -/
import Derived.Test.YtmiedlcblpiemaaGreatDoorOwn31
import Derived.Test.YtmiedlcblpiemaaGreatDoorBase2
set_option linter.all false
namespace Go.Own
open D
def enc_drossref09_Deps:Enc drossref09_Deps:=fun x=>[.lit (.int .u8 x.N),.sl (x.L.map enc_drossref09_Dep)]
def enc_drossref13_Mixed:Enc drossref13_Mixed:=fun x=>[.lit (.int .u8 x.D.N),.sl (x.D.L.map enc_drossref09_Dep),.sl (x.M.map enc_drossref09_Dep)]
def enc_arr2_Int:Enc (Int×Int):=fun x=>[.lit (.int .u8 x.1),.lit (.int .u8 x.2)]
structure TF (P:Program):Prop where
 a27:arrayT P 27=some (2,5)
 g26:isAggT P 26=true
 g27:isAggT P 27=true
 s142:structTs P 142=some [5,5]
 s24:structTs P 24=some [5,22]
 s26:structTs P 26=some [24,22]
 u22:P.underlying 22=some (.slice 142)
 u5:P.underlying 5=some (.int .u8)
theorem tf:TF env.P:=⟨by kernel_rfl,by kernel_rfl,by kernel_rfl,by kernel_rfl,by kernel_rfl,by kernel_rfl,by kernel_rfl,by kernel_rfl⟩
def ok_drossref09_Dep (x:drossref09_Dep):Prop:=(okI .u8) x.L∧(okI .u8) x.R
theorem dec_drossref09_Dep {P:Program} (F:TF P) (k:Nat):Dec (Ty P (k+2) 142) ok_drossref09_Dep enc_drossref09_Dep:=fun ds h=>by
 have h:=ty_struct (k:=k+1) F.s142 h
 simp only [TyTs] at h
 obtain ⟨a0,_,rfl,h0,a1,_,rfl,h1,rfl⟩:=h
 obtain ⟨x0,o0,rfl⟩:=(dec_int (k:=(k+0)) F.u5) a0 h0
 obtain ⟨x1,o1,rfl⟩:=(dec_int (k:=(k+0)) F.u5) a1 h1
 exact ⟨⟨x0,x1⟩,⟨o0,o1⟩,rfl⟩
def ok_drossref09_Deps (x:drossref09_Deps):Prop:=(okI .u8) x.N∧(okL ok_drossref09_Dep) x.L
theorem dec_drossref09_Deps {P:Program} (F:TF P) (k:Nat):Dec (Ty P (k+4) 24) ok_drossref09_Deps enc_drossref09_Deps:=fun ds h=>by
 have h:=ty_struct (k:=k+3) F.s24 h
 simp only [TyTs] at h
 obtain ⟨a0,_,rfl,h0,a1,_,rfl,h1,rfl⟩:=h
 obtain ⟨x0,o0,rfl⟩:=(dec_int (k:=(k+2)) F.u5) a0 h0
 obtain ⟨x1,o1,rfl⟩:=(dec_slice (k:=(k+0)+2) F.u22 (dec_drossref09_Dep F (k+0))) a1 h1
 exact ⟨⟨x0,x1⟩,⟨o0,o1⟩,rfl⟩
def ok_drossref13_Mixed (x:drossref13_Mixed):Prop:=ok_drossref09_Deps x.D∧(okL ok_drossref09_Dep) x.M
theorem dec_drossref13_Mixed {P:Program} (F:TF P) (k:Nat):Dec (Ty P (k+5) 26) ok_drossref13_Mixed enc_drossref13_Mixed:=fun ds h=>by
 have h:=ty_struct (k:=k+4) F.s26 h
 simp only [TyTs] at h
 obtain ⟨a0,_,rfl,h0,a1,_,rfl,h1,rfl⟩:=h
 obtain ⟨x0,o0,rfl⟩:=(dec_drossref09_Deps F (k+0)) a0 h0
 obtain ⟨x1,o1,rfl⟩:=(dec_slice (k:=(k+1)+2) F.u22 (dec_drossref09_Dep F (k+1))) a1 h1
 exact ⟨⟨x0,x1⟩,⟨o0,o1⟩,rfl⟩
def ok_arr2_27 (x:(Int×Int)):Prop:=(okI .u8) x.1∧(okI .u8) x.2
theorem dec_arr2_27 {P:Program} (F:TF P) (k:Nat):Dec (Ty P (k+2) 27) ok_arr2_27 enc_arr2_Int:=fun ds h=>by
 obtain ⟨ps,rfl,hl,hp⟩:=ty_array (k:=k+1) F.a27 h
 match ps,hl,hp with
 | [a0,a1],_,hp=>
 have h0:=hp a0 (by simp)
 have h1:=hp a1 (by simp)
 obtain ⟨x0,o0,rfl⟩:=(dec_int (k:=(k+0)) F.u5) a0 h0
 obtain ⟨x1,o1,rfl⟩:=(dec_int (k:=(k+0)) F.u5) a1 h1
 exact ⟨⟨x0,x1⟩,⟨o0,o1⟩,rfl⟩
theorem drosslaw20_RefuteMixed_args {P:Program} (F:TF P) {xs:List D} (hx:TyAll P 5 [26,27] xs):∃ x0:drossref13_Mixed,∃ x1:(Int×Int),ok_drossref13_Mixed x0∧ok_arr2_27 x1∧xs=[.agg (enc_drossref13_Mixed x0),.agg (enc_arr2_Int x1)]:=by
 simp only [TyAll] at hx
 obtain ⟨d0,_,rfl,h0,d1,_,rfl,h1,rfl⟩:=hx
 obtain ⟨c0,rfl,g0⟩:=tyA_agg F.g26 h0
 obtain ⟨x0,o0,rfl⟩:=(dec_drossref13_Mixed F 0) c0 g0
 obtain ⟨c1,rfl,g1⟩:=tyA_agg F.g27 h1
 obtain ⟨x1,o1,rfl⟩:=(dec_arr2_27 F 3) c1 g1
 exact ⟨x0,x1,o0,o1,rfl⟩
abbrev drosslaw20_RefuteMixed_F:Nat:=3
abbrev drosslaw20_RefuteMixed_K:Nat:=5
abbrev drosslaw20_RefuteMixed_T:List Nat:=[26,27]
end Go.Own
