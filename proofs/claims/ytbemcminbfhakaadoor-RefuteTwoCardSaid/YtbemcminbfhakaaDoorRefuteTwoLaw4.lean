/- What the functions that the law reaches answer. No conditions. -/
import Derived.Test.YtbemcminbfhakaaDoorOwn32
import Derived.Test.YtbemcminbfhakaaDoorBase1
import Derived.Test.YtbemcminbfhakaaDoorBase2
set_option linter.all false
namespace Go.Own
open D
def enc_drossref03_Recipe:Enc drossref03_Recipe:=fun x=>[.lit (.int .u8 x.Attrs),.lit (.int .u8 x.Gap),.sl (x.Rows.map (eSl (eI .u8)))]
def enc_arr2_Int:Enc (Int×Int):=fun x=>[.lit (.int .u8 x.1),.lit (.int .u8 x.2)]
structure TF (P:Program):Prop where
 a62:arrayT P 62=some (2,5)
 g22:isAggT P 22=false
 g3:isAggT P 3=false
 g30:isAggT P 30=false
 g47:isAggT P 47=true
 g61:isAggT P 61=true
 g62:isAggT P 62=true
 s105:structTs P 105=some [5,5]
 s47:structTs P 47=some [28,28]
 s61:structTs P 61=some [5,5,59]
 u121:P.underlying 121=some (.slice 5)
 u22:P.underlying 22=some (.slice 105)
 u28:P.underlying 28=some (.int .u32)
 u3:P.underlying 3=some (.int .i64)
 u30:P.underlying 30=some (.slice 47)
 u5:P.underlying 5=some (.int .u8)
 u59:P.underlying 59=some (.slice 121)
theorem tf:TF env.P:=⟨by kernel_rfl,by kernel_rfl,by kernel_rfl,by kernel_rfl,by kernel_rfl,by kernel_rfl,by kernel_rfl,by kernel_rfl,by kernel_rfl,by kernel_rfl,by kernel_rfl,by kernel_rfl,by kernel_rfl,by kernel_rfl,by kernel_rfl,by kernel_rfl,by kernel_rfl⟩
def ok_drossref03_Recipe (x:drossref03_Recipe):Prop:=(okI .u8) x.Attrs∧(okI .u8) x.Gap∧(okL (okL (okI .u8))) x.Rows
theorem dec_drossref03_Recipe {P:Program} (F:TF P) (k:Nat):Dec (Ty P (k+4) 61) ok_drossref03_Recipe enc_drossref03_Recipe:=fun ds h=>by
 have h:=ty_struct (k:=k+3) F.s61 h
 simp only [TyTs] at h
 obtain ⟨a0,_,rfl,h0,a1,_,rfl,h1,a2,_,rfl,h2,rfl⟩:=h
 obtain ⟨x0,o0,rfl⟩:=(dec_int (k:=(k+2)) F.u5) a0 h0
 obtain ⟨x1,o1,rfl⟩:=(dec_int (k:=(k+2)) F.u5) a1 h1
 obtain ⟨x2,o2,rfl⟩:=(dec_slice (k:=(k+0)+2) F.u59 (dec_slice (k:=(k+0)+1) F.u121 (dec_int (k:=(k+0)) F.u5))) a2 h2
 exact ⟨⟨x0,x1,x2⟩,⟨o0,o1,o2⟩,rfl⟩
def ok_drossref09_Dep (x:drossref09_Dep):Prop:=(okI .u8) x.L∧(okI .u8) x.R
theorem dec_drossref09_Dep {P:Program} (F:TF P) (k:Nat):Dec (Ty P (k+2) 105) ok_drossref09_Dep enc_drossref09_Dep:=fun ds h=>by
 have h:=ty_struct (k:=k+1) F.s105 h
 simp only [TyTs] at h
 obtain ⟨a0,_,rfl,h0,a1,_,rfl,h1,rfl⟩:=h
 obtain ⟨x0,o0,rfl⟩:=(dec_int (k:=(k+0)) F.u5) a0 h0
 obtain ⟨x1,o1,rfl⟩:=(dec_int (k:=(k+0)) F.u5) a1 h1
 exact ⟨⟨x0,x1⟩,⟨o0,o1⟩,rfl⟩
def ok_arr2_62 (x:(Int×Int)):Prop:=(okI .u8) x.1∧(okI .u8) x.2
theorem dec_arr2_62 {P:Program} (F:TF P) (k:Nat):Dec (Ty P (k+2) 62) ok_arr2_62 enc_arr2_Int:=fun ds h=>by
 obtain ⟨ps,rfl,hl,hp⟩:=ty_array (k:=k+1) F.a62 h
 match ps,hl,hp with
 | [a0,a1],_,hp=>
 have h0:=hp a0 (by simp)
 have h1:=hp a1 (by simp)
 obtain ⟨x0,o0,rfl⟩:=(dec_int (k:=(k+0)) F.u5) a0 h0
 obtain ⟨x1,o1,rfl⟩:=(dec_int (k:=(k+0)) F.u5) a1 h1
 exact ⟨⟨x0,x1⟩,⟨o0,o1⟩,rfl⟩
theorem drosslaw20_RefuteTwo_args {P:Program} (F:TF P) {xs:List D} (hx:TyAll P 4 [61,22,62] xs):∃ x0:drossref03_Recipe,∃ x1:List drossref09_Dep,∃ x2:(Int×Int),ok_drossref03_Recipe x0∧(okL ok_drossref09_Dep) x1∧ok_arr2_62 x2∧xs=[.agg (enc_drossref03_Recipe x0),.sl (x1.map enc_drossref09_Dep),.agg (enc_arr2_Int x2)]:=by
 simp only [TyAll] at hx
 obtain ⟨d0,_,rfl,h0,d1,_,rfl,h1,d2,_,rfl,h2,rfl⟩:=hx
 obtain ⟨c0,rfl,g0⟩:=tyA_agg F.g61 h0
 obtain ⟨x0,o0,rfl⟩:=(dec_drossref03_Recipe F 0) c0 g0
 have g1:=tyA_one F.g22 h1
 obtain ⟨x1,o1,e1⟩:=(dec_slice (k:=1+2) F.u22 (dec_drossref09_Dep F 1)) _ g1
 obtain rfl:=(List.cons.inj e1).1
 obtain ⟨c2,rfl,g2⟩:=tyA_agg F.g62 h2
 obtain ⟨x2,o2,rfl⟩:=(dec_arr2_62 F 2) c2 g2
 exact ⟨x0,x1,x2,o0,o1,o2,rfl⟩
abbrev drosslaw20_RefuteTwo_F:Nat:=5
abbrev drosslaw20_RefuteTwo_K:Nat:=4
abbrev drosslaw20_RefuteTwo_T:List Nat:=[61,22,62]
theorem drosslaw20_RefuteTwo_of (h:∀ x0:drossref03_Recipe,∀ x1:List drossref09_Dep,∀ x2:(Int×Int),ok_drossref03_Recipe x0→(okL ok_drossref09_Dep) x1→ok_arr2_62 x2→Ret env 5 [.agg (enc_drossref03_Recipe x0),.sl (x1.map enc_drossref09_Dep),.agg (enc_arr2_Int x2)] (.lit (.bool true)) []) {xs:List D} (hx:TyAll env.P 4 [61,22,62] xs):Ret env 5 xs (.lit (.bool true)) []:=by
 obtain ⟨x0,x1,x2,o0,o1,o2,e⟩:=drosslaw20_RefuteTwo_args (P:=env.P) tf hx
 rw [e]
 exact h x0 x1 x2 o0 o1 o2
end Go.Own
