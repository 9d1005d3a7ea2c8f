/- What the functions that the law reaches answer. No conditions. -/
import Derived.Test.YtbemcminbfhakaaDoorOwn32
import Derived.Test.YtbemcminbfhakaaDoorBase1
import Derived.Test.YtbemcminbfhakaaDoorBase2
set_option linter.all false
namespace Go.Own
open D
structure TF (P:Program):Prop where
 a62:arrayT P 62=some (2,5)
 g22:isAggT P 22=false
 g3:isAggT P 3=false
 g30:isAggT P 30=false
 g47:isAggT P 47=true
 g61:isAggT P 61=true
 g62:isAggT P 62=true
 s105:structTs P 105=some [5,5]
 s47:structTs P 47=some [28,28]
 s61:structTs P 61=some [5,5,59]
 u121:P.underlying 121=some (.slice 5)
 u22:P.underlying 22=some (.slice 105)
 u28:P.underlying 28=some (.int .u32)
 u3:P.underlying 3=some (.int .i64)
 u30:P.underlying 30=some (.slice 47)
 u5:P.underlying 5=some (.int .u8)
 u59:P.underlying 59=some (.slice 121)
theorem tf:TF env.P:=⟨by kernel_rfl,by kernel_rfl,by kernel_rfl,by kernel_rfl,by kernel_rfl,by kernel_rfl,by kernel_rfl,by kernel_rfl,by kernel_rfl,by kernel_rfl,by kernel_rfl,by kernel_rfl,by kernel_rfl,by kernel_rfl,by kernel_rfl,by kernel_rfl,by kernel_rfl⟩
def ok_api_FD (x:api_FD):Prop:=(okI .u32) x.Lhs∧(okI .u32) x.Rhs
theorem dec_api_FD {P:Program} (F:TF P) (k:Nat):Dec (Ty P (k+2) 47) ok_api_FD enc_api_FD:=fun ds h=>by
 have h:=ty_struct (k:=k+1) F.s47 h
 simp only [TyTs] at h
 obtain ⟨a0,_,rfl,h0,a1,_,rfl,h1,rfl⟩:=h
 obtain ⟨x0,o0,rfl⟩:=(dec_int (k:=(k+0)) F.u28) a0 h0
 obtain ⟨x1,o1,rfl⟩:=(dec_int (k:=(k+0)) F.u28) a1 h1
 exact ⟨⟨x0,x1⟩,⟨o0,o1⟩,rfl⟩
theorem drosslaw20_RefuteFD_args {P:Program} (F:TF P) {xs:List D} (hx:TyAll P 3 [3,30,47] xs):∃ x0:Int,∃ x1:List api_FD,∃ x2:api_FD,(okI .i64) x0∧(okL ok_api_FD) x1∧ok_api_FD x2∧xs=[.lit (.int .i64 x0),.sl (x1.map enc_api_FD),.agg (enc_api_FD x2)]:=by
 simp only [TyAll] at hx
 obtain ⟨d0,_,rfl,h0,d1,_,rfl,h1,d2,_,rfl,h2,rfl⟩:=hx
 have g0:=tyA_one F.g3 h0
 obtain ⟨x0,o0,e0⟩:=(dec_int (k:=2) F.u3) _ g0
 obtain rfl:=(List.cons.inj e0).1
 have g1:=tyA_one F.g30 h1
 obtain ⟨x1,o1,e1⟩:=(dec_slice (k:=0+2) F.u30 (dec_api_FD F 0)) _ g1
 obtain rfl:=(List.cons.inj e1).1
 obtain ⟨c2,rfl,g2⟩:=tyA_agg F.g47 h2
 obtain ⟨x2,o2,rfl⟩:=(dec_api_FD F 1) c2 g2
 exact ⟨x0,x1,x2,o0,o1,o2,rfl⟩
abbrev drosslaw20_RefuteFD_F:Nat:=4
abbrev drosslaw20_RefuteFD_K:Nat:=3
abbrev drosslaw20_RefuteFD_T:List Nat:=[3,30,47]
theorem drosslaw20_RefuteFD_of (h:∀ x0:Int,∀ x1:List api_FD,∀ x2:api_FD,(okI .i64) x0→(okL ok_api_FD) x1→ok_api_FD x2→Ret env 4 [.lit (.int .i64 x0),.sl (x1.map enc_api_FD),.agg (enc_api_FD x2)] (.lit (.bool true)) []) {xs:List D} (hx:TyAll env.P 3 [3,30,47] xs):Ret env 4 xs (.lit (.bool true)) []:=by
 obtain ⟨x0,x1,x2,o0,o1,o2,e⟩:=drosslaw20_RefuteFD_args (P:=env.P) tf hx
 rw [e]
 exact h x0 x1 x2 o0 o1 o2
end Go.Own
