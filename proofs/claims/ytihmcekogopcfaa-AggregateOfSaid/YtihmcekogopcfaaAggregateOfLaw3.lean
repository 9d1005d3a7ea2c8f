/- What the functions that the law reaches answer. No conditions. -/
import Derived.Test.YtihmcekogopcfaaOwn33
import Derived.Test.YtihmcekogopcfaaBase2
import Derived.Test.YtihmcekogopcfaaBase3
set_option linter.all false
namespace Go.Own
open D
def enc_api_Table:Enc api_Table:=fun x=>[.lit (.string x.Name),.sl (x.Attrs.map eS),.sl (x.Rows.map enc_api_Row)]
def enc_drosslaw51_Job:Enc drosslaw51_Job:=fun x=>[.lit (.string x.T.Name),.sl (x.T.Attrs.map eS),.sl (x.T.Rows.map enc_api_Row),.lit (.int .u32 x.Key),.sl (x.L.map enc_api_Condition),.lit (.int .i64 x.Kind),.lit (.int .i64 x.Attr)]
structure TF (P:Program):Prop where
 a112:arrayT P 112=some (3,5)
 g36:isAggT P 36=false
 g40:isAggT P 40=true
 g58:isAggT P 58=false
 g67:isAggT P 67=true
 g70:isAggT P 70=true
 g80:isAggT P 80=false
 s26:structTs P 26=some [9,23,24]
 s28:structTs P 28=some [3,2,9]
 s31:structTs P 31=some [2,29]
 s40:structTs P 40=some [26,36,38,3,3]
 s48:structTs P 48=some [3,3,28]
 s67:structTs P 67=some [5,5,65]
 s70:structTs P 70=some [68,5,5]
 u2:P.underlying 2=some (.int .i64)
 u23:P.underlying 23=some (.slice 9)
 u24:P.underlying 24=some (.slice 31)
 u29:P.underlying 29=some (.slice 28)
 u3:P.underlying 3=some (.int .i64)
 u36:P.underlying 36=some (.int .u32)
 u38:P.underlying 38=some (.slice 48)
 u5:P.underlying 5=some (.int .u8)
 u58:P.underlying 58=some (.slice 2)
 u65:P.underlying 65=some (.slice 80)
 u68:P.underlying 68=some (.slice 112)
 u80:P.underlying 80=some (.slice 5)
 u9:P.underlying 9=some .string
theorem tf:TF env.P:=⟨by kernel_rfl,by kernel_rfl,by kernel_rfl,by kernel_rfl,by kernel_rfl,by kernel_rfl,by kernel_rfl,by kernel_rfl,by kernel_rfl,by kernel_rfl,by kernel_rfl,by kernel_rfl,by kernel_rfl,by kernel_rfl,by kernel_rfl,by kernel_rfl,by kernel_rfl,by kernel_rfl,by kernel_rfl,by kernel_rfl,by kernel_rfl,by kernel_rfl,by kernel_rfl,by kernel_rfl,by kernel_rfl,by kernel_rfl,by kernel_rfl⟩
def ok_api_Value (x:api_Value):Prop:=(okI .i64) x.Kind∧(okI .i64) x.Num∧okStr x.Str
theorem dec_api_Value {P:Program} (F:TF P) (k:Nat):Dec (Ty P (k+2) 28) ok_api_Value enc_api_Value:=fun ds h=>by
 have h:=ty_struct (k:=k+1) F.s28 h
 simp only [TyTs] at h
 obtain ⟨a0,_,rfl,h0,a1,_,rfl,h1,a2,_,rfl,h2,rfl⟩:=h
 obtain ⟨x0,o0,rfl⟩:=(dec_int (k:=(k+0)) F.u3) a0 h0
 obtain ⟨x1,o1,rfl⟩:=(dec_int (k:=(k+0)) F.u2) a1 h1
 obtain ⟨x2,o2,rfl⟩:=(dec_str (k:=(k+0)) F.u9) a2 h2
 exact ⟨⟨x0,x1,x2⟩,⟨o0,o1,o2⟩,rfl⟩
def ok_api_Row (x:api_Row):Prop:=(okI .i64) x.ID∧(okL ok_api_Value) x.Values
theorem dec_api_Row {P:Program} (F:TF P) (k:Nat):Dec (Ty P (k+4) 31) ok_api_Row enc_api_Row:=fun ds h=>by
 have h:=ty_struct (k:=k+3) F.s31 h
 simp only [TyTs] at h
 obtain ⟨a0,_,rfl,h0,a1,_,rfl,h1,rfl⟩:=h
 obtain ⟨x0,o0,rfl⟩:=(dec_int (k:=(k+2)) F.u2) a0 h0
 obtain ⟨x1,o1,rfl⟩:=(dec_slice (k:=(k+0)+2) F.u29 (dec_api_Value F (k+0))) a1 h1
 exact ⟨⟨x0,x1⟩,⟨o0,o1⟩,rfl⟩
def ok_api_Table (x:api_Table):Prop:=okStr x.Name∧(okL okStr) x.Attrs∧(okL ok_api_Row) x.Rows
theorem dec_api_Table {P:Program} (F:TF P) (k:Nat):Dec (Ty P (k+6) 26) ok_api_Table enc_api_Table:=fun ds h=>by
 have h:=ty_struct (k:=k+5) F.s26 h
 simp only [TyTs] at h
 obtain ⟨a0,_,rfl,h0,a1,_,rfl,h1,a2,_,rfl,h2,rfl⟩:=h
 obtain ⟨x0,o0,rfl⟩:=(dec_str (k:=(k+4)) F.u9) a0 h0
 obtain ⟨x1,o1,rfl⟩:=(dec_slice (k:=(k+3)+1) F.u23 (dec_str (k:=(k+3)) F.u9)) a1 h1
 obtain ⟨x2,o2,rfl⟩:=(dec_slice (k:=(k+0)+4) F.u24 (dec_api_Row F (k+0))) a2 h2
 exact ⟨⟨x0,x1,x2⟩,⟨o0,o1,o2⟩,rfl⟩
def ok_api_Condition (x:api_Condition):Prop:=(okI .i64) x.Attr∧(okI .i64) x.Op∧ok_api_Value x.Value
theorem dec_api_Condition {P:Program} (F:TF P) (k:Nat):Dec (Ty P (k+3) 48) ok_api_Condition enc_api_Condition:=fun ds h=>by
 have h:=ty_struct (k:=k+2) F.s48 h
 simp only [TyTs] at h
 obtain ⟨a0,_,rfl,h0,a1,_,rfl,h1,a2,_,rfl,h2,rfl⟩:=h
 obtain ⟨x0,o0,rfl⟩:=(dec_int (k:=(k+1)) F.u3) a0 h0
 obtain ⟨x1,o1,rfl⟩:=(dec_int (k:=(k+1)) F.u3) a1 h1
 obtain ⟨x2,o2,rfl⟩:=(dec_api_Value F (k+0)) a2 h2
 exact ⟨⟨x0,x1,x2⟩,⟨o0,o1,o2⟩,rfl⟩
def ok_drosslaw51_Job (x:drosslaw51_Job):Prop:=ok_api_Table x.T∧(okI .u32) x.Key∧(okL ok_api_Condition) x.L∧(okI .i64) x.Kind∧(okI .i64) x.Attr
theorem dec_drosslaw51_Job {P:Program} (F:TF P) (k:Nat):Dec (Ty P (k+7) 40) ok_drosslaw51_Job enc_drosslaw51_Job:=fun ds h=>by
 have h:=ty_struct (k:=k+6) F.s40 h
 simp only [TyTs] at h
 obtain ⟨a0,_,rfl,h0,a1,_,rfl,h1,a2,_,rfl,h2,a3,_,rfl,h3,a4,_,rfl,h4,rfl⟩:=h
 obtain ⟨x0,o0,rfl⟩:=(dec_api_Table F (k+0)) a0 h0
 obtain ⟨x1,o1,rfl⟩:=(dec_int (k:=(k+5)) F.u36) a1 h1
 obtain ⟨x2,o2,rfl⟩:=(dec_slice (k:=(k+2)+3) F.u38 (dec_api_Condition F (k+2))) a2 h2
 obtain ⟨x3,o3,rfl⟩:=(dec_int (k:=(k+5)) F.u3) a3 h3
 obtain ⟨x4,o4,rfl⟩:=(dec_int (k:=(k+5)) F.u3) a4 h4
 exact ⟨⟨x0,x1,x2,x3,x4⟩,⟨o0,o1,o2,o3,o4⟩,rfl⟩
theorem drosslaw51_AggregateOf_args {P:Program} (F:TF P) {xs:List D} (hx:TyAll P 7 [40] xs):∃ x0:drosslaw51_Job,ok_drosslaw51_Job x0∧xs=[.agg (enc_drosslaw51_Job x0)]:=by
 simp only [TyAll] at hx
 obtain ⟨d0,_,rfl,h0,rfl⟩:=hx
 obtain ⟨c0,rfl,g0⟩:=tyA_agg F.g40 h0
 obtain ⟨x0,o0,rfl⟩:=(dec_drosslaw51_Job F 0) c0 g0
 exact ⟨x0,o0,rfl⟩
abbrev drosslaw51_AggregateOf_F:Nat:=4
abbrev drosslaw51_AggregateOf_K:Nat:=7
abbrev drosslaw51_AggregateOf_T:List Nat:=[40]
theorem drosslaw51_AggregateOf_of (h:∀ x0:drosslaw51_Job,ok_drosslaw51_Job x0→Ret env 4 [.agg (enc_drosslaw51_Job x0)] (.lit (.bool true)) []) {xs:List D} (hx:TyAll env.P 7 [40] xs):Ret env 4 xs (.lit (.bool true)) []:=by
 obtain ⟨x0,o0,e⟩:=drosslaw51_AggregateOf_args (P:=env.P) tf hx
 rw [e]
 exact h x0 o0
end Go.Own
