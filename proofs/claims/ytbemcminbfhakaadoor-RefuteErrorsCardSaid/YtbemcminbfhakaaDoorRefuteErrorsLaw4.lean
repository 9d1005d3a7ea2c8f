/- What the functions that the law reaches answer. No conditions. -/
import Derived.Test.YtbemcminbfhakaaDoorOwn32
import Derived.Test.YtbemcminbfhakaaDoorBase1
import Derived.Test.YtbemcminbfhakaaDoorBase2
set_option linter.all false
namespace Go.Own
open D
def enc_arr2_Listapi_FD:Enc (List api_FD×List api_FD):=fun x=>[.sl (x.1.map enc_api_FD),.sl (x.2.map enc_api_FD)]
structure TF (P:Program):Prop where
 a69:arrayT P 69=some (2,30)
 g3:isAggT P 3=false
 g47:isAggT P 47=true
 g69:isAggT P 69=true
 s47:structTs P 47=some [28,28]
 u28:P.underlying 28=some (.int .u32)
 u3:P.underlying 3=some (.int .i64)
 u30:P.underlying 30=some (.slice 47)
theorem tf:TF env.P:=⟨by kernel_rfl,by kernel_rfl,by kernel_rfl,by kernel_rfl,by kernel_rfl,by kernel_rfl,by kernel_rfl,by kernel_rfl⟩
def ok_api_FD (x:api_FD):Prop:=(okI .u32) x.Lhs∧(okI .u32) x.Rhs
theorem dec_api_FD {P:Program} (F:TF P) (k:Nat):Dec (Ty P (k+2) 47) ok_api_FD enc_api_FD:=fun ds h=>by
 have h:=ty_struct (k:=k+1) F.s47 h
 simp only [TyTs] at h
 obtain ⟨a0,_,rfl,h0,a1,_,rfl,h1,rfl⟩:=h
 obtain ⟨x0,o0,rfl⟩:=(dec_int (k:=(k+0)) F.u28) a0 h0
 obtain ⟨x1,o1,rfl⟩:=(dec_int (k:=(k+0)) F.u28) a1 h1
 exact ⟨⟨x0,x1⟩,⟨o0,o1⟩,rfl⟩
def ok_arr2_69 (x:(List api_FD×List api_FD)):Prop:=(okL ok_api_FD) x.1∧(okL ok_api_FD) x.2
theorem dec_arr2_69 {P:Program} (F:TF P) (k:Nat):Dec (Ty P (k+4) 69) ok_arr2_69 enc_arr2_Listapi_FD:=fun ds h=>by
 obtain ⟨ps,rfl,hl,hp⟩:=ty_array (k:=k+3) F.a69 h
 match ps,hl,hp with
 | [a0,a1],_,hp=>
 have h0:=hp a0 (by simp)
 have h1:=hp a1 (by simp)
 obtain ⟨x0,o0,rfl⟩:=(dec_slice (k:=(k+0)+2) F.u30 (dec_api_FD F (k+0))) a0 h0
 obtain ⟨x1,o1,rfl⟩:=(dec_slice (k:=(k+0)+2) F.u30 (dec_api_FD F (k+0))) a1 h1
 exact ⟨⟨x0,x1⟩,⟨o0,o1⟩,rfl⟩
theorem drosslaw20_RefuteErrors_args {P:Program} (F:TF P) {xs:List D} (hx:TyAll P 4 [3,69,47] xs):∃ x0:Int,∃ x1:(List api_FD×List api_FD),∃ x2:api_FD,(okI .i64) x0∧ok_arr2_69 x1∧ok_api_FD x2∧xs=[.lit (.int .i64 x0),.agg (enc_arr2_Listapi_FD x1),.agg (enc_api_FD x2)]:=by
 simp only [TyAll] at hx
 obtain ⟨d0,_,rfl,h0,d1,_,rfl,h1,d2,_,rfl,h2,rfl⟩:=hx
 have g0:=tyA_one F.g3 h0
 obtain ⟨x0,o0,e0⟩:=(dec_int (k:=3) F.u3) _ g0
 obtain rfl:=(List.cons.inj e0).1
 obtain ⟨c1,rfl,g1⟩:=tyA_agg F.g69 h1
 obtain ⟨x1,o1,rfl⟩:=(dec_arr2_69 F 0) c1 g1
 obtain ⟨c2,rfl,g2⟩:=tyA_agg F.g47 h2
 obtain ⟨x2,o2,rfl⟩:=(dec_api_FD F 2) c2 g2
 exact ⟨x0,x1,x2,o0,o1,o2,rfl⟩
abbrev drosslaw20_RefuteErrors_F:Nat:=6
abbrev drosslaw20_RefuteErrors_K:Nat:=4
abbrev drosslaw20_RefuteErrors_T:List Nat:=[3,69,47]
theorem drosslaw20_RefuteErrors_of (h:∀ x0:Int,∀ x1:(List api_FD×List api_FD),∀ x2:api_FD,(okI .i64) x0→ok_arr2_69 x1→ok_api_FD x2→Ret env 6 [.lit (.int .i64 x0),.agg (enc_arr2_Listapi_FD x1),.agg (enc_api_FD x2)] (.lit (.bool true)) []) {xs:List D} (hx:TyAll env.P 4 [3,69,47] xs):Ret env 6 xs (.lit (.bool true)) []:=by
 obtain ⟨x0,x1,x2,o0,o1,o2,e⟩:=drosslaw20_RefuteErrors_args (P:=env.P) tf hx
 rw [e]
 exact h x0 x1 x2 o0 o1 o2
end Go.Own
