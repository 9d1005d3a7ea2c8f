/- What the functions that the law reaches answer. No conditions. -/
import Derived.Test.YteenpfaegjdkoaaGreatOwn33
import Derived.Test.YteenpfaegjdkoaaGreatBase2
import Derived.Test.YteenpfaegjdkoaaGreatBase3
set_option linter.all false
namespace Go.Own
open D
def enc_api_Table:Enc api_Table:=fun x=>[.lit (.string x.Name),.sl (x.Attrs.map eS),.sl (x.Rows.map enc_api_Row)]
def enc_drosslaw51_Job:Enc drosslaw51_Job:=fun x=>[.lit (.string x.T.Name),.sl (x.T.Attrs.map eS),.sl (x.T.Rows.map enc_api_Row),.lit (.int .u32 x.Key),.sl (x.L.map enc_api_Condition),.lit (.int .i64 x.Kind),.lit (.int .i64 x.Attr)]
structure TF (P:Program):Prop where
 g30:isAggT P 30=true
 s25:structTs P 25=some [9,22,23]
 s30:structTs P 30=some [25,27,28,3,3]
 s38:structTs P 38=some [3,2,9]
 s40:structTs P 40=some [3,3,38]
 s82:structTs P 82=some [2,80]
 u2:P.underlying 2=some (.int .i64)
 u22:P.underlying 22=some (.slice 9)
 u23:P.underlying 23=some (.slice 82)
 u27:P.underlying 27=some (.int .u32)
 u28:P.underlying 28=some (.slice 40)
 u3:P.underlying 3=some (.int .i64)
 u80:P.underlying 80=some (.slice 38)
 u9:P.underlying 9=some .string
theorem tf:TF env.P:=⟨by kernel_rfl,by kernel_rfl,by kernel_rfl,by kernel_rfl,by kernel_rfl,by kernel_rfl,by kernel_rfl,by kernel_rfl,by kernel_rfl,by kernel_rfl,by kernel_rfl,by kernel_rfl,by kernel_rfl,by kernel_rfl⟩
def ok_api_Value (x:api_Value):Prop:=(okI .i64) x.Kind∧(okI .i64) x.Num∧okStr x.Str
theorem dec_api_Value {P:Program} (F:TF P) (k:Nat):Dec (Ty P (k+2) 38) ok_api_Value enc_api_Value:=fun ds h=>by
 have h:=ty_struct (k:=k+1) F.s38 h
 simp only [TyTs] at h
 obtain ⟨a0,_,rfl,h0,a1,_,rfl,h1,a2,_,rfl,h2,rfl⟩:=h
 obtain ⟨x0,o0,rfl⟩:=(dec_int (k:=(k+0)) F.u3) a0 h0
 obtain ⟨x1,o1,rfl⟩:=(dec_int (k:=(k+0)) F.u2) a1 h1
 obtain ⟨x2,o2,rfl⟩:=(dec_str (k:=(k+0)) F.u9) a2 h2
 exact ⟨⟨x0,x1,x2⟩,⟨o0,o1,o2⟩,rfl⟩
def ok_api_Row (x:api_Row):Prop:=(okI .i64) x.ID∧(okL ok_api_Value) x.Values
theorem dec_api_Row {P:Program} (F:TF P) (k:Nat):Dec (Ty P (k+4) 82) ok_api_Row enc_api_Row:=fun ds h=>by
 have h:=ty_struct (k:=k+3) F.s82 h
 simp only [TyTs] at h
 obtain ⟨a0,_,rfl,h0,a1,_,rfl,h1,rfl⟩:=h
 obtain ⟨x0,o0,rfl⟩:=(dec_int (k:=(k+2)) F.u2) a0 h0
 obtain ⟨x1,o1,rfl⟩:=(dec_slice (k:=(k+0)+2) F.u80 (dec_api_Value F (k+0))) a1 h1
 exact ⟨⟨x0,x1⟩,⟨o0,o1⟩,rfl⟩
def ok_api_Table (x:api_Table):Prop:=okStr x.Name∧(okL okStr) x.Attrs∧(okL ok_api_Row) x.Rows
theorem dec_api_Table {P:Program} (F:TF P) (k:Nat):Dec (Ty P (k+6) 25) ok_api_Table enc_api_Table:=fun ds h=>by
 have h:=ty_struct (k:=k+5) F.s25 h
 simp only [TyTs] at h
 obtain ⟨a0,_,rfl,h0,a1,_,rfl,h1,a2,_,rfl,h2,rfl⟩:=h
 obtain ⟨x0,o0,rfl⟩:=(dec_str (k:=(k+4)) F.u9) a0 h0
 obtain ⟨x1,o1,rfl⟩:=(dec_slice (k:=(k+3)+1) F.u22 (dec_str (k:=(k+3)) F.u9)) a1 h1
 obtain ⟨x2,o2,rfl⟩:=(dec_slice (k:=(k+0)+4) F.u23 (dec_api_Row F (k+0))) a2 h2
 exact ⟨⟨x0,x1,x2⟩,⟨o0,o1,o2⟩,rfl⟩
def ok_api_Condition (x:api_Condition):Prop:=(okI .i64) x.Attr∧(okI .i64) x.Op∧ok_api_Value x.Value
theorem dec_api_Condition {P:Program} (F:TF P) (k:Nat):Dec (Ty P (k+3) 40) ok_api_Condition enc_api_Condition:=fun ds h=>by
 have h:=ty_struct (k:=k+2) F.s40 h
 simp only [TyTs] at h
 obtain ⟨a0,_,rfl,h0,a1,_,rfl,h1,a2,_,rfl,h2,rfl⟩:=h
 obtain ⟨x0,o0,rfl⟩:=(dec_int (k:=(k+1)) F.u3) a0 h0
 obtain ⟨x1,o1,rfl⟩:=(dec_int (k:=(k+1)) F.u3) a1 h1
 obtain ⟨x2,o2,rfl⟩:=(dec_api_Value F (k+0)) a2 h2
 exact ⟨⟨x0,x1,x2⟩,⟨o0,o1,o2⟩,rfl⟩
def ok_drosslaw51_Job (x:drosslaw51_Job):Prop:=ok_api_Table x.T∧(okI .u32) x.Key∧(okL ok_api_Condition) x.L∧(okI .i64) x.Kind∧(okI .i64) x.Attr
theorem dec_drosslaw51_Job {P:Program} (F:TF P) (k:Nat):Dec (Ty P (k+7) 30) ok_drosslaw51_Job enc_drosslaw51_Job:=fun ds h=>by
 have h:=ty_struct (k:=k+6) F.s30 h
 simp only [TyTs] at h
 obtain ⟨a0,_,rfl,h0,a1,_,rfl,h1,a2,_,rfl,h2,a3,_,rfl,h3,a4,_,rfl,h4,rfl⟩:=h
 obtain ⟨x0,o0,rfl⟩:=(dec_api_Table F (k+0)) a0 h0
 obtain ⟨x1,o1,rfl⟩:=(dec_int (k:=(k+5)) F.u27) a1 h1
 obtain ⟨x2,o2,rfl⟩:=(dec_slice (k:=(k+2)+3) F.u28 (dec_api_Condition F (k+2))) a2 h2
 obtain ⟨x3,o3,rfl⟩:=(dec_int (k:=(k+5)) F.u3) a3 h3
 obtain ⟨x4,o4,rfl⟩:=(dec_int (k:=(k+5)) F.u3) a4 h4
 exact ⟨⟨x0,x1,x2,x3,x4⟩,⟨o0,o1,o2,o3,o4⟩,rfl⟩
theorem drosslaw51_AggregateExtremes_args {P:Program} (F:TF P) {xs:List D} (hx:TyAll P 7 [30] xs):∃ x0:drosslaw51_Job,ok_drosslaw51_Job x0∧xs=[.agg (enc_drosslaw51_Job x0)]:=by
 simp only [TyAll] at hx
 obtain ⟨d0,_,rfl,h0,rfl⟩:=hx
 obtain ⟨c0,rfl,g0⟩:=tyA_agg F.g30 h0
 obtain ⟨x0,o0,rfl⟩:=(dec_drosslaw51_Job F 0) c0 g0
 exact ⟨x0,o0,rfl⟩
abbrev drosslaw51_AggregateExtremes_F:Nat:=3
abbrev drosslaw51_AggregateExtremes_K:Nat:=7
abbrev drosslaw51_AggregateExtremes_T:List Nat:=[30]
theorem drosslaw51_AggregateExtremes_of (h:∀ x0:drosslaw51_Job,ok_drosslaw51_Job x0→Ret env 3 [.agg (enc_drosslaw51_Job x0)] (.lit (.bool true)) []) {xs:List D} (hx:TyAll env.P 7 [30] xs):Ret env 3 xs (.lit (.bool true)) []:=by
 obtain ⟨x0,o0,e⟩:=drosslaw51_AggregateExtremes_args (P:=env.P) tf hx
 rw [e]
 exact h x0 o0
end Go.Own
