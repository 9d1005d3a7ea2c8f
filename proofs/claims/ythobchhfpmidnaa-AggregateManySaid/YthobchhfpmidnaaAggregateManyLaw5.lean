/- What the functions that the law reaches answer. No conditions. -/
import Derived.Test.YthobchhfpmidnaaBase5
import Derived.Test.YthobchhfpmidnaaOwn18
import Derived.Test.YthobchhfpmidnaaBase2
import Derived.Test.YthobchhfpmidnaaOwn24
set_option linter.all false
namespace Go.Own
open Go.Proofs D
set_option maxRecDepth 100000
set_option maxHeartbeats 4000000
namespace slices_Index_sstring_string
noncomputable def B:Code:=(Try.f96.body).getD .skip
def W:List Nat:=[0,1,4,5,7,8,9,16]
def res (r:Int):D×List D:=(.lit (.int .i64 r),[])
def C (x0:List ByteArray) (x1:ByteArray) (r:Int):Prop:=Ret env 96 [.sl (x0.map eS),.lit (.string x1)] (res r).1 (res r).2
def L1 (x0:List ByteArray) (x1:ByteArray) (z0:Int) (φ:Int→Prop):Prop:=Pt env 96 W B [1,0,1,0] [(0,.sl (x0.map eS)),(1,.lit (.string x1)),(7,.lit (.int .i64 ((x0.length:Int)))),(8,.lit (.int .i64 z0))] (Lv env 96 Try.f96 2 res φ)
theorem L1_step (x0:List ByteArray) (x1:ByteArray) (z0:Int) (φ:Int→Prop) (h :
 (if z0<(x0.length:Int) then
 ∃ a1,lget x0 z0=some a1 ∧
 (if x1.toList=a1.toList then
 φ z0
 else
 slices_Index_sstring_string.L1 x0 x1 ((IntKind.wrap .i64 (z0+1))) φ)
 else
 φ ((-1)))):L1 x0 x1 z0 φ:=
 mIn <|
 mAsk 2 h dT dF (fun h=>
 mIx 11 eS h fun a1 h2 h=>
 mAsk 1 h seq_t seq_f (fun h=>
 mRet 6 h) fun h=>
 mFin 7 h) fun h=>
 mRet 6 h
theorem enter (x0:List ByteArray) (x1:ByteArray) (φ:Int→Prop) (h :
 slices_Index_sstring_string.L1 x0 x1 0 φ):∃ r,φ r∧C x0 x1 r:=
 mEnt (fd:=Try.f96) (body:=B) (V:=W) (res:=res) <|
 mLen 5 eS x0 <|
 mFin 2 h
end slices_Index_sstring_string
end Go.Own
namespace Go.Own
open Go.Proofs D
set_option maxRecDepth 100000
set_option maxHeartbeats 4000000
namespace slices_Contains_sstring_string
noncomputable def B:Code:=(Try.f81.body).getD .skip
def W:List Nat:=[0,1,4]
def res (r:Bool):D×List D:=(.lit (.bool r),[])
def C (x0:List ByteArray) (x1:ByteArray) (r:Bool):Prop:=Ret env 81 [.sl (x0.map eS),.lit (.string x1)] (res r).1 (res r).2
theorem enter (x0:List ByteArray) (x1:ByteArray) (φ:Bool→Prop) (h :
 ∃ r1:Int,slices_Index_sstring_string.C x0 x1 r1 ∧
 φ ((decide (0≤r1)))):∃ r,φ r∧C x0 x1 r:=
 mEnt (fd:=Try.f81) (body:=B) (V:=W) (res:=res) <|
 mCal 6 h (fun _ h=>h) fun r1 _ h=>
 mRet 3 h
end slices_Contains_sstring_string
end Go.Own
namespace Go.Own
open Go.Proofs D
set_option maxRecDepth 100000
set_option maxHeartbeats 4000000
namespace table_isName
noncomputable def B:Code:=(Try.f80.body).getD .skip
def W:List Nat:=[0,2,3,4,5,16,18,19,20,56]
def res (r:Bool):D×List D:=(.lit (.bool r),[])
def C (x0:ByteArray) (r:Bool):Prop:=Ret env 80 [.lit (.string x0)] (res r).1 (res r).2
def L1 (x0:ByteArray) (z0:Int) (φ:Bool→Prop):Prop:=Pt env 80 W B [1,1,0,1,0] [(0,.lit (.string x0)),(18,.lit (.int .i64 ((bsize x0)))),(19,.lit (.int .i64 z0))] (Lv env 80 Try.f80 1 res φ)
def L2 (x0:ByteArray) (z0 z1:Int) (z2:Bool) (φ:Bool→Prop):Prop:=Pt env 80 W B [1,1,0,1,0,0,1,1,0,0,1,1,1,0] [(0,.lit (.string x0)),(3,.lit (.int .i64 z0)),(4,.lit (.int .u8 z1)),(5,.lit (.bool z2)),(18,.lit (.int .i64 ((bsize x0)))),(19,.lit (.int .i64 z0))] (Lv env 80 Try.f80 1 res φ)
def L3 (x0:ByteArray) (z0:Int) (φ:Bool→Prop):Prop:=Pt env 80 W B [1,1,0,1,0,0,1,1,1] [(0,.lit (.string x0)),(18,.lit (.int .i64 ((bsize x0)))),(19,.lit (.int .i64 z0))] (Lv env 80 Try.f80 1 res φ)
theorem L1_step (x0:ByteArray) (z0:Int) (φ:Bool→Prop) (h :
 (if z0<(bsize x0) then
 ∃ b1,((0:Int)≤z0∧x0[(z0).toNat]? = some b1) ∧
 (if 97≤(u8i b1) then
 (if (u8i b1)≤122 then
 table_isName.L2 x0 z0 ((u8i b1)) true φ
 else
 (if 65≤(u8i b1) then
 (if (u8i b1)≤90 then
 table_isName.L2 x0 z0 ((u8i b1)) true φ
 else
 table_isName.L2 x0 z0 ((u8i b1)) (((u8i b1) == 95)) φ)
 else
 table_isName.L2 x0 z0 ((u8i b1)) (((u8i b1) == 95)) φ))
 else
 (if 65≤(u8i b1) then
 (if (u8i b1)≤90 then
 table_isName.L2 x0 z0 ((u8i b1)) true φ
 else
 table_isName.L2 x0 z0 ((u8i b1)) (((u8i b1) == 95)) φ)
 else
 table_isName.L2 x0 z0 ((u8i b1)) (((u8i b1) == 95)) φ))
 else
 φ true)):L1 x0 z0 φ:=
 mIn <|
 mAsk 2 h dT dF (fun h=>
 mSt 10 h fun b1 h=>
 mAsk 4 h dT dF (fun h=>
 mAsk 2 h dT dF (fun h=>
 mFin 15 h) fun h=>
 mAsk 3 h dT dF (fun h=>
 mAsk 2 h dT dF (fun h=>
 mFin 8 h) fun h=>
 mFin 8 h) fun h=>
 mFin 11 h) fun h=>
 mAsk 6 h dT dF (fun h=>
 mAsk 2 h dT dF (fun h=>
 mFin 8 h) fun h=>
 mFin 8 h) fun h=>
 mFin 11 h) fun h=>
 mRet 6 h
theorem L2_step (x0:ByteArray) (z0 z1:Int) (z2:Bool) (φ:Bool→Prop) (h :
 (if z2=true then
 table_isName.L3 x0 z0 φ
 else
 (if z0=0 then
 φ false
 else
 (if z1<48 then
 φ false
 else
 (if 57<z1 then
 φ false
 else
 table_isName.L3 x0 z0 φ))))):L2 x0 z0 z1 z2 φ:=
 mIn <|
 mAsk 1 h id fls (fun h=>
 mFin 16 h) fun h=>
 mAsk 3 h beq_t beq_f (fun h=>
 mRet 14 h) fun h=>
 mAsk 2 h dT dF (fun h=>
 mRet 11 h) fun h=>
 mAsk 3 h dT dF (fun h=>
 mRet 7 h) fun h=>
 mFin 5 h
theorem L3_step (x0:ByteArray) (z0:Int) (φ:Bool→Prop) (h :
 table_isName.L1 x0 ((IntKind.wrap .i64 (z0+1))) φ):L3 x0 z0 φ:=
 mIn <|
 mFin 4 h
theorem enter (x0:ByteArray) (φ:Bool→Prop) (h :
 (if x0.toList=((⟨#[]⟩:ByteArray)).toList then
 φ false
 else
 (if 24<(bsize x0) then
 φ false
 else
 (if x0.toList=((⟨#[110,117,108,108]⟩:ByteArray)).toList then
 φ false
 else
 table_isName.L1 x0 0 φ)))):∃ r,φ r∧C x0 r:=
 mEnt (fd:=Try.f80) (body:=B) (V:=W) (res:=res) <|
 mAsk 5 h seq_t seq_f (fun h=>
 mRet 14 h) fun h=>
 mAsk 3 h dT dF (fun h=>
 mRet 10 h) fun h=>
 mAsk 3 h seq_t seq_f (fun h=>
 mRet 6 h) fun h=>
 mFin 9 h
end table_isName
end Go.Own
namespace Go.Own
open Go.Proofs D
set_option maxRecDepth 100000
set_option maxHeartbeats 4000000
namespace value_Valid
noncomputable def B:Code:=(Try.f83.body).getD .skip
def W:List Nat:=[0,1,2,4,5,15,20,31]
def res (r:Bool):D×List D:=(.lit (.bool r),[])
def C (x0:api_Value) (r:Bool):Prop:=Ret env 83 [.agg [.lit (.int .i64 x0.Kind),.lit (.int .i64 x0.Num),.lit (.string x0.Str)]] (res r).1 (res r).2
theorem enter (x0:api_Value) (φ:Bool→Prop) (h :
 (if x0.Kind=0 then
 (if x0.Num=0 then
 φ ((x0.Str.toList == ((⟨#[]⟩:ByteArray)).toList))
 else
 φ false)
 else
 (if x0.Kind=1 then
 φ ((x0.Str.toList == ((⟨#[]⟩:ByteArray)).toList))
 else
 (if x0.Kind=2 then
 (if x0.Num=0 then
 φ ((decide ((bsize x0.Str)≤200)))
 else
 φ false)
 else
 (if x0.Kind=3 then
 (if 1≤x0.Num then
 φ ((x0.Str.toList == ((⟨#[]⟩:ByteArray)).toList))
 else
 φ false)
 else
 φ false))))):∃ r,φ r∧C x0 r:=
 mEnt (fd:=Try.f83) (body:=B) (V:=W) (res:=res) <|
 mCon 12 h beq_t beq_f (fun h=>
 mAsk 3 h beq_t beq_f (fun h=>
 mRet 7 h) fun h=>
 mRet 7 h) fun h=>
 mCon 4 h beq_t beq_f (fun h=>
 mRet 6 h) fun h=>
 mCon 4 h beq_t beq_f (fun h=>
 mAsk 3 h beq_t beq_f (fun h=>
 mRet 8 h) fun h=>
 mRet 8 h) fun h=>
 mCon 4 h beq_t beq_f (fun h=>
 mAsk 3 h dT dF (fun h=>
 mRet 7 h) fun h=>
 mRet 7 h) fun h=>
 mRet 4 h
end value_Valid
end Go.Own
namespace Go.Own
open Go.Proofs D
set_option maxRecDepth 100000
set_option maxHeartbeats 4000000
namespace table_validValues_1
noncomputable def B:Code:=(Try.f98.body).getD .skip
def W:List Nat:=[0,1,2]
def res (r:Bool):D×List D:=(.lit (.bool r),[])
def C (x0:api_Value) (r:Bool):Prop:=Ret env 98 [.agg [.lit (.int .i64 x0.Kind),.lit (.int .i64 x0.Num),.lit (.string x0.Str)]] (res r).1 (res r).2
theorem enter (x0:api_Value) (φ:Bool→Prop) (h :
 ∃ r1:Bool,value_Valid.C x0 r1 ∧
 φ ((not r1))):∃ r,φ r∧C x0 r:=
 mEnt (fd:=Try.f98) (body:=B) (V:=W) (res:=res) <|
 mCal 6 h (fun _ h=>h) fun r1 _ h=>
 mRet 3 h
end table_validValues_1
end Go.Own
namespace Go.Own
open Go.Proofs D
set_option maxRecDepth 100000
set_option maxHeartbeats 4000000
namespace slices_IndexFunc_sapi_Value_api_Value_table_validValues_1
noncomputable def B:Code:=(Try.f108.body).getD .skip
def W:List Nat:=[0,1,4,5,7,8,9,16]
def res (r:Int):D×List D:=(.lit (.int .i64 r),[])
def C (x0:List api_Value) (r:Int):Prop:=Ret env 108 [.sl (x0.map enc_api_Value),.fn 98 []] (res r).1 (res r).2
def L1 (x0:List api_Value) (z0:Int) (φ:Int→Prop):Prop:=Pt env 108 W B [1,0,1,0] [(0,.sl (x0.map enc_api_Value)),(1,.fn 98 []),(7,.lit (.int .i64 ((x0.length:Int)))),(8,.lit (.int .i64 z0))] (Lv env 108 Try.f108 2 res φ)
theorem L1_step (x0:List api_Value) (z0:Int) (φ:Int→Prop) (h :
 (if z0<(x0.length:Int) then
 ∃ a1,lget x0 z0=some a1 ∧
 ∃ r3:Bool,table_validValues_1.C a1 r3 ∧
 (if r3=true then
 φ z0
 else
 slices_IndexFunc_sapi_Value_api_Value_table_validValues_1.L1 x0 ((IntKind.wrap .i64 (z0+1))) φ)
 else
 φ ((-1)))):L1 x0 z0 φ:=
 mIn <|
 mAsk 2 h dT dF (fun h=>
 mIx 11 enc_api_Value h fun a1 h2 h=>
 mCalB 1 h (fun _ h=>h) (fun _ h=>
 mRet 6 h) fun _ h=>
 mFin 7 h) fun h=>
 mRet 6 h
theorem enter (x0:List api_Value) (φ:Int→Prop) (h :
 slices_IndexFunc_sapi_Value_api_Value_table_validValues_1.L1 x0 0 φ):∃ r,φ r∧C x0 r:=
 mEnt (fd:=Try.f108) (body:=B) (V:=W) (res:=res) <|
 mLen 5 enc_api_Value x0 <|
 mFin 2 h
end slices_IndexFunc_sapi_Value_api_Value_table_validValues_1
end Go.Own
namespace Go.Own
open Go.Proofs D
set_option maxRecDepth 100000
set_option maxHeartbeats 4000000
namespace slices_ContainsFunc_sapi_Value_api_Value_table_validValues_1
noncomputable def B:Code:=(Try.f97.body).getD .skip
def W:List Nat:=[0,1,4]
def res (r:Bool):D×List D:=(.lit (.bool r),[])
def C (x0:List api_Value) (r:Bool):Prop:=Ret env 97 [.sl (x0.map enc_api_Value),.fn 98 []] (res r).1 (res r).2
theorem enter (x0:List api_Value) (φ:Bool→Prop) (h :
 ∃ r1:Int,slices_IndexFunc_sapi_Value_api_Value_table_validValues_1.C x0 r1 ∧
 φ ((decide (0≤r1)))):∃ r,φ r∧C x0 r:=
 mEnt (fd:=Try.f97) (body:=B) (V:=W) (res:=res) <|
 mCal 6 h (fun _ h=>h) fun r1 _ h=>
 mRet 3 h
end slices_ContainsFunc_sapi_Value_api_Value_table_validValues_1
end Go.Own
namespace Go.Own
open Go.Proofs D
set_option maxRecDepth 100000
set_option maxHeartbeats 4000000
namespace table_validValues
noncomputable def B:Code:=(Try.f82.body).getD .skip
def W:List Nat:=[0,2]
def res (r:Bool):D×List D:=(.lit (.bool r),[])
def C (x0:List api_Value) (r:Bool):Prop:=Ret env 82 [.sl (x0.map enc_api_Value)] (res r).1 (res r).2
theorem enter (x0:List api_Value) (φ:Bool→Prop) (h :
 ∃ r1:Bool,slices_ContainsFunc_sapi_Value_api_Value_table_validValues_1.C x0 r1 ∧
 φ ((not r1))):∃ r,φ r∧C x0 r:=
 mEnt (fd:=Try.f82) (body:=B) (V:=W) (res:=res) <|
 mCal 5 h (fun _ h=>h) fun r1 _ h=>
 mRet 3 h
end table_validValues
end Go.Own
namespace Go.Own
open Go.Proofs D
set_option maxRecDepth 100000
set_option maxHeartbeats 4000000
namespace table_Valid
noncomputable def B:Code:=(Try.f51.body).getD .skip
def W:List Nat:=[0,1,2,3,4,5,7,11,21,23,24,25,26,40,43,44,45,46,49,54,62]
def res (r:Int):D×List D:=(.lit (.int .i64 r),[])
def C (x0:api_Table) (r:Int):Prop:=Ret env 51 [.agg [.lit (.string x0.Name),.sl (x0.Attrs.map eS),.sl (x0.Rows.map enc_api_Row)]] (res r).1 (res r).2
def L1 (x0:api_Table) (z0:Int) (φ:Int→Prop):Prop:=Pt env 51 W B [1,1,1,0,1,0] [(0,.agg [.lit (.string x0.Name),.sl (x0.Attrs.map eS),.sl (x0.Rows.map enc_api_Row)]),(1,.box [.lit (.string x0.Name),.sl (x0.Attrs.map eS),.sl (x0.Rows.map enc_api_Row)]),(23,.sl (x0.Attrs.map eS)),(24,.lit (.int .i64 ((x0.Attrs.length:Int)))),(25,.lit (.int .i64 z0))] (Lv env 51 Try.f51 1 res φ)
def L2 (x0:api_Table) (z0 z1:Int) (φ:Int→Prop):Prop:=Pt env 51 W B [1,1,1,1,1,0,1,0] [(0,.agg [.lit (.string x0.Name),.sl (x0.Attrs.map eS),.sl (x0.Rows.map enc_api_Row)]),(1,.box [.lit (.string x0.Name),.sl (x0.Attrs.map eS),.sl (x0.Rows.map enc_api_Row)]),(5,.lit (.int .i64 z0)),(43,.sl (x0.Rows.map enc_api_Row)),(44,.lit (.int .i64 ((x0.Rows.length:Int)))),(45,.lit (.int .i64 z1))] (Lv env 51 Try.f51 1 res φ)
theorem L1_step (x0:api_Table) (z0:Int) (φ:Int→Prop) (h :
 (if z0<(x0.Attrs.length:Int) then
 ∃ a2,lget x0.Attrs z0=some a2 ∧
 ∃ r4:Bool,table_isName.C a2 r4 ∧
 (if r4=true then
 0≤z0 ∧
 (0≤z0.toNat∧z0.toNat≤x0.Attrs.length) ∧
 ∃ r7:Bool,slices_Contains_sstring_string.C ((List.take (z0.toNat-0) x0.Attrs)) a2 r7 ∧
 (if r7=true then
 φ 1
 else
 table_Valid.L1 x0 ((IntKind.wrap .i64 (z0+1))) φ)
 else
 φ 1)
 else
 table_Valid.L2 x0 0 0 φ)):L1 x0 z0 φ:=
 mIn <|
 mAsk 2 h dT dF (fun h=>
 mIx 5 eS h fun a2 h3 h=>
 mCalB 6 h (fun _ h=>h) (fun _ h=>
 h.elim fun h5 h=>
 h.elim fun h6 h=>
 mVl 5 (val_slice_sl (t:=23) (x:=(.tmp 35)) (lo:=none) (hi:=(some (.tmp 36))) (lo':=none) (hi':=some (z0).toNat) (e:=eS) (l:=x0.Attrs) (et:=9) (k:=1) (by kernel_rfl) (by kernel_rfl) optNat_none (optNat_some (i:=z0) (q:=.i64) (by kernel_rfl) h5) (by kernel_rfl) (by kernel_rfl) (fun _=>rfl) (by kernel_rfl) h6.1 h6.2) <|
 mCalB 1 h (fun _ h=>h) (fun _ h=>
 mRet 6 h) fun _ h=>
 mFin 8 h) fun _ h=>
 mRet 14 h) fun h=>
 mLen 9 enc_api_Row x0.Rows <|
 mFin 2 h
theorem L2_step (x0:api_Table) (z0 z1:Int) (φ:Int→Prop) (h :
 (if z1<(x0.Rows.length:Int) then
 ∃ a8,lget x0.Rows z1=some a8 ∧
 (if a8.ID≤z0 then
 φ 1
 else
 (if (a8.Values.length:Int)=(x0.Attrs.length:Int) then
 ∃ r10:Bool,table_validValues.C a8.Values r10 ∧
 (if r10=true then
 table_Valid.L2 x0 a8.ID ((IntKind.wrap .i64 (z1+1))) φ
 else
 φ 1)
 else
 φ 6))
 else
 φ 0)):L2 x0 z0 z1 φ:=
 mIn <|
 mAsk 2 h dT dF (fun h=>
 mIx 4 enc_api_Row h fun a8 h9 h=>
 mCon 11 h dT dF (fun h=>
 mRet 3 h) fun h=>
 mLen 3 enc_api_Value a8.Values <|
 mLen 2 eS x0.Attrs <|
 mConN 3 h bne_t bne_f (fun h=>
 mRet 3 h) fun h=>
 mCal 3 h (fun _ h=>h) fun r10 _ h=>
 mConN 3 h (fun h=>fls (not_t h)) (fun h=>id (not_f h)) (fun h=>
 mRet 3 h) fun h=>
 mFin 10 h) fun h=>
 mRet 6 h
theorem enter (x0:api_Table) (φ:Int→Prop) (h :
 ∃ r1:Bool,table_isName.C x0.Name r1 ∧
 (if r1=true then
 (if 16<(x0.Attrs.length:Int) then
 φ 3
 else
 (if 1000<(x0.Rows.length:Int) then
 φ 3
 else
 table_Valid.L1 x0 0 φ))
 else
 φ 1)):∃ r,φ r∧C x0 r:=
 mEnt (fd:=Try.f51) (body:=B) (V:=W) (res:=res) <|
 mCalB 7 h (fun _ h=>h) (fun _ h=>
 mLen 7 eS x0.Attrs <|
 mAsk 0 h dT dF (fun h=>
 mRet 11 h) fun h=>
 mLen 3 enc_api_Row x0.Rows <|
 mAsk 0 h dT dF (fun h=>
 mRet 6 h) fun h=>
 mLen 7 eS x0.Attrs <|
 mFin 2 h) fun _ h=>
 mRet 6 h
end table_Valid
end Go.Own
namespace Go.Own
open Go.Proofs D
set_option maxRecDepth 100000
set_option maxHeartbeats 4000000
namespace drossref01_Valid
end drossref01_Valid
end Go.Own
namespace Go.Own
open Go.Proofs D
set_option maxRecDepth 100000
set_option maxHeartbeats 4000000
namespace drossref01_Valids
end drossref01_Valids
end Go.Own
namespace Go.Own
open Go.Proofs D
set_option maxRecDepth 100000
set_option maxHeartbeats 4000000
namespace drossref03_letter
noncomputable def B:Code:=(Try.f94.body).getD .skip
def W:List Nat:=[0,2]
def res (r:Bool):D×List D:=(.lit (.bool r),[])
def C (x0:Int) (r:Bool):Prop:=Ret env 94 [.lit (.int .u8 x0)] (res r).1 (res r).2
theorem enter (x0:Int) (φ:Bool→Prop) (h :
 (if 97≤x0 then
 (if x0≤122 then
 φ true
 else
 (if 65≤x0 then
 (if x0≤90 then
 φ true
 else
 φ ((x0 == 95)))
 else
 φ ((x0 == 95))))
 else
 (if 65≤x0 then
 (if x0≤90 then
 φ true
 else
 φ ((x0 == 95)))
 else
 φ ((x0 == 95))))):∃ r,φ r∧C x0 r:=
 mEnt (fd:=Try.f94) (body:=B) (V:=W) (res:=res) <|
 mAsk 5 h dT dF (fun h=>
 mAsk 2 h dT dF (fun h=>
 mRet 15 h) fun h=>
 mAsk 3 h dT dF (fun h=>
 mAsk 2 h dT dF (fun h=>
 mRet 8 h) fun h=>
 mRet 8 h) fun h=>
 mRet 11 h) fun h=>
 mAsk 6 h dT dF (fun h=>
 mAsk 2 h dT dF (fun h=>
 mRet 8 h) fun h=>
 mRet 8 h) fun h=>
 mRet 11 h
end drossref03_letter
end Go.Own
namespace Go.Own
open Go.Proofs D
set_option maxRecDepth 100000
set_option maxHeartbeats 4000000
namespace drossref03_Name
noncomputable def B:Code:=(Try.f73.body).getD .skip
def W:List Nat:=[0,2,3,21,25,44]
def res (r:Bool):D×List D:=(.lit (.bool r),[])
def C (x0:ByteArray) (r:Bool):Prop:=Ret env 73 [.lit (.string x0)] (res r).1 (res r).2
def L1 (x0:ByteArray) (z0:Int) (φ:Bool→Prop):Prop:=Pt env 73 W B [1,1,0,1,0] [(0,.lit (.string x0)),(3,.lit (.int .i64 z0))] (Lv env 73 Try.f73 1 res φ)
def L2 (x0:ByteArray) (z0:Int) (φ:Bool→Prop):Prop:=Pt env 73 W B [1,1,0,1,0,0,1,1] [(0,.lit (.string x0)),(3,.lit (.int .i64 z0))] (Lv env 73 Try.f73 1 res φ)
theorem L1_step (x0:ByteArray) (z0:Int) (φ:Bool→Prop) (h :
 (if z0<(bsize x0) then
 ∃ b5,((0:Int)≤z0∧x0[(z0).toNat]? = some b5) ∧
 ∃ r8:Bool,drossref03_letter.C ((u8i b5)) r8 ∧
 (if r8=true then
 drossref03_Name.L2 x0 z0 φ
 else
 ∃ b9,((0:Int)≤z0∧x0[(z0).toNat]? = some b9) ∧
 (if (u8i b9)<48 then
 φ false
 else
 ∃ b12,((0:Int)≤z0∧x0[(z0).toNat]? = some b12) ∧
 (if 57<(u8i b12) then
 φ false
 else
 drossref03_Name.L2 x0 z0 φ)))
 else
 φ true)):L1 x0 z0 φ:=
 mIn <|
 mAsk 5 h dT dF (fun h=>
 mSt 6 h fun b5 h=>
 mCalB 0 h (fun _ h=>h) (fun _ h=>
 mFin 16 h) fun _ h=>
 mSt 4 h fun b9 h=>
 mAsk 0 h dT dF (fun h=>
 mRet 12 h) fun h=>
 mSt 3 h fun b12 h=>
 mAsk 0 h dT dF (fun h=>
 mRet 7 h) fun h=>
 mFin 5 h) fun h=>
 mRet 6 h
theorem L2_step (x0:ByteArray) (z0:Int) (φ:Bool→Prop) (h :
 drossref03_Name.L1 x0 ((IntKind.wrap .i64 (z0+1))) φ):L2 x0 z0 φ:=
 mIn <|
 mFin 5 h
theorem enter (x0:ByteArray) (φ:Bool→Prop) (h :
 (if (bsize x0)=0 then
 φ false
 else
 (if 24<(bsize x0) then
 φ false
 else
 ∃ b1,((0:Int)≤0∧x0[((0:Int)).toNat]? = some b1) ∧
 ∃ r4:Bool,drossref03_letter.C ((u8i b1)) r4 ∧
 (if r4=true then
 (if x0.toList=((⟨#[110,117,108,108]⟩:ByteArray)).toList then
 φ false
 else
 drossref03_Name.L1 x0 0 φ)
 else
 φ false)))):∃ r,φ r∧C x0 r:=
 mEnt (fd:=Try.f73) (body:=B) (V:=W) (res:=res) <|
 mAsk 6 h beq_t beq_f (fun h=>
 mRet 20 h) fun h=>
 mAsk 3 h dT dF (fun h=>
 mRet 16 h) fun h=>
 mSt 3 h fun b1 h=>
 mCalB 0 h (fun _ h=>h) (fun _ h=>
 mAsk 4 h seq_t seq_f (fun h=>
 mRet 6 h) fun h=>
 mFin 7 h) fun _ h=>
 mRet 11 h
end drossref03_Name
end Go.Own
namespace Go.Own
open Go.Proofs D
set_option maxRecDepth 100000
set_option maxHeartbeats 4000000
namespace drossref03_Attr
end drossref03_Attr
end Go.Own
namespace Go.Own
open Go.Proofs D
set_option maxRecDepth 100000
set_option maxHeartbeats 4000000
namespace drossref03_Names
end drossref03_Names
end Go.Own
namespace Go.Own
open Go.Proofs D
set_option maxRecDepth 100000
set_option maxHeartbeats 4000000
namespace drossref03_Valid
end drossref03_Valid
end Go.Own
namespace Go.Own
open Go.Proofs D
set_option maxRecDepth 100000
set_option maxHeartbeats 4000000
namespace drossref02_Full
end drossref02_Full
end Go.Own
namespace Go.Own
open Go.Proofs D
set_option maxRecDepth 100000
set_option maxHeartbeats 4000000
namespace drossref02_Has
end drossref02_Has
end Go.Own
namespace Go.Own
open Go.Proofs D
set_option maxRecDepth 100000
set_option maxHeartbeats 4000000
namespace drossref01_sign
end drossref01_sign
end Go.Own
namespace Go.Own
open Go.Proofs D
set_option maxRecDepth 100000
set_option maxHeartbeats 4000000
namespace drossref01_strings
end drossref01_strings
end Go.Own
namespace Go.Own
open Go.Proofs D
set_option maxRecDepth 100000
set_option maxHeartbeats 4000000
namespace drossref01_Compare
end drossref01_Compare
end Go.Own
namespace Go.Own
open Go.Proofs D
set_option maxRecDepth 100000
set_option maxHeartbeats 4000000
namespace drossref01_Lists
end drossref01_Lists
end Go.Own
namespace Go.Own
open Go.Proofs D
set_option maxRecDepth 100000
set_option maxHeartbeats 4000000
namespace drossref01_Same
end drossref01_Same
end Go.Own
namespace Go.Own
open Go.Proofs D
set_option maxRecDepth 100000
set_option maxHeartbeats 4000000
namespace value_number
noncomputable def B:Code:=(Try.f106.body).getD .skip
def W:List Nat:=[0,1,4,5,6,11]
def res (r:List Int):D×List D:=(.own (r.map (eI .u8)),[])
def C (x1:Int) (k0_0 r:List Int):Prop:=Ret env 106 [.own (k0_0.map (eI .u8)),.lit (.int .i64 x1)] (res r).1 (res r).2
def L1 (k0_0:List Int) (z0 z1:Int) (φ:List Int→Prop):Prop:=Pt env 106 W B [1,1,0,1,0] [(0,.own (k0_0.map (eI .u8))),(5,.lit (.int .u64 z0)),(6,.lit (.int .i64 z1))] (Lv env 106 Try.f106 2 res φ)
theorem L1_step (k0_0:List Int) (z0 z1:Int) (φ:List Int→Prop) (h :
 (if 0≤z1 then
 0≤z1 ∧
 (k0_0.length+1)*1≤140737488355328 ∧
 value_number.L1 ((k0_0++[(IntKind.wrap .u8 (shrw .u64 z0 z1))])) z0 ((IntKind.wrap .i64 (z1-8))) φ
 else
 φ k0_0)):L1 k0_0 z0 z1 φ:=
 mIn <|
 mAsk 3 h dT dF (fun h=>
 h.elim fun h1 h=>
 mBi 7 (bin_shr (t:=179) (q:=.u64) (q':=.i64) (i1:=z0) h1) <|
 mApp 2 (eI .u8) k0_0 ([(IntKind.wrap .u8 (shrw .u64 z0 z1))]) h fun h=>
 mFin 7 h) fun h=>
 mRet 7 h
theorem enter (x1:Int) (k0_0:List Int) (φ:List Int→Prop) (h :
 value_number.L1 k0_0 ((bXor .u64 (IntKind.wrap .u64 x1) 9223372036854775808)) 56 φ):∃ r,φ r∧C x1 k0_0 r:=
 mEnt (fd:=Try.f106) (body:=B) (V:=W) (res:=res) <|
 mFin 12 h
end value_number
end Go.Own
namespace Go.Own
open Go.Proofs D
set_option maxRecDepth 100000
set_option maxHeartbeats 4000000
namespace value_Key
noncomputable def B:Code:=(Try.f88.body).getD .skip
def W:List Nat:=[0,1,2,3,4,5,8,14,15,22,26,27,28,41]
def res (r:ByteArray×Int):D×List D:=(.tup [.lit (.string r.1),.lit (.int .i64 r.2)],[])
def C (x0:api_Value) (r:ByteArray×Int):Prop:=Ret env 88 [.agg [.lit (.int .i64 x0.Kind),.lit (.int .i64 x0.Num),.lit (.string x0.Str)]] (res r).1 (res r).2
def L2 (x0:api_Value) (z0:Bool) (φ:ByteArray×Int→Prop):Prop:=Pt env 88 W B [1,1,1,0,1,0,1,0] [(0,.agg [.lit (.int .i64 x0.Kind),.lit (.int .i64 x0.Num),.lit (.string x0.Str)]),(1,.box [.lit (.int .i64 x0.Kind),.lit (.int .i64 x0.Num),.lit (.string x0.Str)]),(4,.own (([(IntKind.wrap .u8 x0.Kind)]).map (eI .u8))),(14,.lit (.int .i64 x0.Kind)),(15,.lit (.bool z0))] (Lv env 88 Try.f88 1 res φ)
def L3 (x0:api_Value) (φ:ByteArray×Int→Prop):Prop:=Pt env 88 W B [1,1,1,0,1,0,1,1,0] [(0,.agg [.lit (.int .i64 x0.Kind),.lit (.int .i64 x0.Num),.lit (.string x0.Str)]),(1,.box [.lit (.int .i64 x0.Kind),.lit (.int .i64 x0.Num),.lit (.string x0.Str)]),(4,.own (([(IntKind.wrap .u8 x0.Kind)]).map (eI .u8))),(14,.lit (.int .i64 x0.Kind))] (Lv env 88 Try.f88 1 res φ)
def L1 (x0:api_Value) (z0:List Int) (z1:Int) (φ:ByteArray×Int→Prop):Prop:=Pt env 88 W B [1,1,1,0,1,0,1,1,1,0,0,1,0] [(0,.agg [.lit (.int .i64 x0.Kind),.lit (.int .i64 x0.Num),.lit (.string x0.Str)]),(1,.box [.lit (.int .i64 x0.Kind),.lit (.int .i64 x0.Num),.lit (.string x0.Str)]),(4,.own (z0.map (eI .u8))),(26,.lit (.int .i64 ((bsize x0.Str)))),(27,.lit (.int .i64 z1))] (Lv env 88 Try.f88 1 res φ)
def L4 (x0:api_Value) (z0:List Int) (z1:Int) (φ:ByteArray×Int→Prop):Prop:=Pt env 88 W B [1,1,1,0,1,0,1,1,1,0,0,1,0,0,1,1,1] [(0,.agg [.lit (.int .i64 x0.Kind),.lit (.int .i64 x0.Num),.lit (.string x0.Str)]),(1,.box [.lit (.int .i64 x0.Kind),.lit (.int .i64 x0.Num),.lit (.string x0.Str)]),(4,.own (z0.map (eI .u8))),(26,.lit (.int .i64 ((bsize x0.Str)))),(27,.lit (.int .i64 z1))] (Lv env 88 Try.f88 1 res φ)
theorem L2_step (x0:api_Value) (z0:Bool) (φ:ByteArray×Int→Prop) (h :
 ∃ r2:List Int,value_number.C x0.Num ([(IntKind.wrap .u8 x0.Kind)]) r2 ∧
 (∀ x∈r2,0≤x∧x<256) ∧
 φ (((bstrI r2),0))):L2 x0 z0 φ:=
 mIn <|
 mCal 4 h (fun _ h=>h) (hf:=(fun _=>clF_flat (flat_ow (e:=(eI .u8)) (fun _=>rfl)) rfl)) fun r2 _ h=>
 h.elim fun h3 h=>
 mVl 4 (val_tostr (s:=80) (t:=9) (et:=5) (x:=(.tmp 49)) (d:=.alias 4 []) (l:=r2) (by kernel_rfl) (by kernel_rfl) (elemsOf_ow (by kernel_rfl)) (by kernel_rfl) (by kernel_rfl) (by kernel_rfl) h3) <|
 mRet 3 h
theorem L3_step (x0:api_Value) (φ:ByteArray×Int→Prop) (h :
 (if x0.Kind=2 then
 value_Key.L1 x0 ([(IntKind.wrap .u8 x0.Kind)]) 0 φ
 else
 (∀ x∈([(IntKind.wrap .u8 x0.Kind)]),0≤x∧x<256) ∧
 φ (((bstrI [(IntKind.wrap .u8 x0.Kind)]),0)))):L3 x0 φ:=
 mIn <|
 mCon 4 h beq_t beq_f (fun h=>
 mFin 6 h) fun h=>
 h.elim fun h4 h=>
 mVl 3 (val_tostr (s:=80) (t:=9) (et:=5) (x:=(.tmp 49)) (d:=.alias 4 []) (l:=[(IntKind.wrap .u8 x0.Kind)]) (by kernel_rfl) (by kernel_rfl) (elemsOf_ow (by kernel_rfl)) (by kernel_rfl) (by kernel_rfl) (by kernel_rfl) h4) <|
 mRet 3 h
theorem L1_step (x0:api_Value) (z0:List Int) (z1:Int) (φ:ByteArray×Int→Prop) (h :
 (if z1<(bsize x0.Str) then
 ∃ b5,((0:Int)≤z1∧x0.Str[(z1).toNat]? = some b5) ∧
 (z0.length+1)*1≤140737488355328 ∧
 ∃ b9,((0:Int)≤z1∧x0.Str[(z1).toNat]? = some b9) ∧
 (if (u8i b9)=0 then
 (((z0++[(u8i b5)])).length+1)*1≤140737488355328 ∧
 value_Key.L4 x0 (((z0++[(u8i b5)])++[255])) z1 φ
 else
 value_Key.L4 x0 ((z0++[(u8i b5)])) z1 φ)
 else
 (z0.length+2)*1≤140737488355328 ∧
 (∀ x∈((z0++[0,1])),0≤x∧x<256) ∧
 φ (((bstrI (z0++[0,1])),0)))):L1 x0 z0 z1 φ:=
 mIn <|
 mAsk 2 h dT dF (fun h=>
 mSt 12 h fun b5 h=>
 mApp 1 (eI .u8) z0 ([(u8i b5)]) h fun h=>
 mSt 6 h fun b9 h=>
 mAsk 0 h beq_t beq_f (fun h=>
 mApp 5 (eI .u8) ((z0++[(u8i b5)])) ([255]) h fun h=>
 mFin 2 h) fun h=>
 mFin 3 h) fun h=>
 mApp 6 (eI .u8) z0 ([0,1]) h fun h=>
 h.elim fun h14 h=>
 mVl 4 (val_tostr (s:=80) (t:=9) (et:=5) (x:=(.tmp 49)) (d:=.alias 4 []) (l:=(z0++[0,1])) (by kernel_rfl) (by kernel_rfl) (elemsOf_ow (by kernel_rfl)) (by kernel_rfl) (by kernel_rfl) (by kernel_rfl) h14) <|
 mRet 3 h
theorem L4_step (x0:api_Value) (z0:List Int) (z1:Int) (φ:ByteArray×Int→Prop) (h :
 value_Key.L1 x0 z0 ((IntKind.wrap .i64 (z1+1))) φ):L4 x0 z0 z1 φ:=
 mIn <|
 mFin 4 h
theorem enter (x0:api_Value) (φ:ByteArray×Int→Prop) (h :
 ∃ r1:Bool,value_Valid.C x0 r1 ∧
 (if r1=true then
 (if x0.Kind=1 then
 (if x0.Kind=1 then
 value_Key.L2 x0 ((x0.Kind == 1)) φ
 else
 value_Key.L3 x0 φ)
 else
 (if x0.Kind=3 then
 value_Key.L2 x0 ((x0.Kind == 3)) φ
 else
 value_Key.L3 x0 φ))
 else
 φ (((⟨#[]⟩:ByteArray),1)))):∃ r,φ r∧C x0 r:=
 mEnt (fd:=Try.f88) (body:=B) (V:=W) (res:=res) <|
 mCalB 7 h (fun _ h=>h) (fun _ h=>
 mCon 19 h beq_t beq_f (fun h=>
 mCon 1 h beq_t beq_f (fun h=>
 mFin 0 h) fun h=>
 mFin 0 h) fun h=>
 mCon 4 h beq_t beq_f (fun h=>
 mFin 0 h) fun h=>
 mFin 0 h) fun _ h=>
 mRet 7 h
end value_Key
end Go.Own
namespace Go.Own
open Go.Proofs D
set_option maxRecDepth 100000
set_option maxHeartbeats 4000000
namespace cmp_isNaN_int
end cmp_isNaN_int
end Go.Own
namespace Go.Own
open Go.Proofs D
set_option maxRecDepth 100000
set_option maxHeartbeats 4000000
namespace cmp_Compare_int
end cmp_Compare_int
end Go.Own
namespace Go.Own
open Go.Proofs D
set_option maxRecDepth 100000
set_option maxHeartbeats 4000000
namespace cmp_isNaN_int64
end cmp_isNaN_int64
end Go.Own
namespace Go.Own
open Go.Proofs D
set_option maxRecDepth 100000
set_option maxHeartbeats 4000000
namespace cmp_Compare_int64
end cmp_Compare_int64
end Go.Own
namespace Go.Own
open Go.Proofs D
set_option maxRecDepth 100000
set_option maxHeartbeats 4000000
namespace cmp_Or_int
end cmp_Or_int
end Go.Own
namespace Go.Own
open Go.Proofs D
set_option maxRecDepth 100000
set_option maxHeartbeats 4000000
namespace internal_bytealg_CompareString
end internal_bytealg_CompareString
end Go.Own
namespace Go.Own
open Go.Proofs D
set_option maxRecDepth 100000
set_option maxHeartbeats 4000000
namespace strings_Compare
end strings_Compare
end Go.Own
namespace Go.Own
open Go.Proofs D
set_option maxRecDepth 100000
set_option maxHeartbeats 4000000
namespace value_Compare
def res (r:Int):D×List D:=(.lit (.int .i64 r),[])
def C (x0 x1:api_Value) (r:Int):Prop:=Ret env 84 [.agg [.lit (.int .i64 x0.Kind),.lit (.int .i64 x0.Num),.lit (.string x0.Str)],.agg [.lit (.int .i64 x1.Kind),.lit (.int .i64 x1.Num),.lit (.string x1.Str)]] (res r).1 (res r).2
end value_Compare
end Go.Own
namespace Go.Own
open Go.Proofs D
set_option maxRecDepth 100000
set_option maxHeartbeats 4000000
namespace aggregate_satisfies
noncomputable def B:Code:=(Try.f53.body).getD .skip
def W:List Nat:=[0,1,2,4,6,7,8,9,10,11,12,27,28,32,36,41]
def res (r:Bool):D×List D:=(.lit (.bool r),[])
def C (x0:api_Row) (x1:List api_Condition) (r:Bool):Prop:=Ret env 53 [.agg [.lit (.int .i64 x0.ID),.sl (x0.Values.map enc_api_Value)],.sl (x1.map enc_api_Condition)] (res r).1 (res r).2
def L1 (x0:api_Row) (x1:List api_Condition) (z0:Int) (φ:Bool→Prop):Prop:=Pt env 53 W B [1,0,1,0] [(0,.agg [.lit (.int .i64 x0.ID),.sl (x0.Values.map enc_api_Value)]),(1,.sl (x1.map enc_api_Condition)),(2,.box [.lit (.int .i64 x0.ID),.sl (x0.Values.map enc_api_Value)]),(9,.sl (x1.map enc_api_Condition)),(10,.lit (.int .i64 ((x1.length:Int)))),(11,.lit (.int .i64 z0))] (Lv env 53 Try.f53 2 res φ)
def L2 (x0:api_Row) (x1:List api_Condition) (z0:Bool) (z1:Int) (φ:Bool→Prop):Prop:=Pt env 53 W B [1,0,1,0,0,1,1,0,0,1,1,1,1,0] [(0,.agg [.lit (.int .i64 x0.ID),.sl (x0.Values.map enc_api_Value)]),(1,.sl (x1.map enc_api_Condition)),(2,.box [.lit (.int .i64 x0.ID),.sl (x0.Values.map enc_api_Value)]),(8,.lit (.bool z0)),(9,.sl (x1.map enc_api_Condition)),(10,.lit (.int .i64 ((x1.length:Int)))),(11,.lit (.int .i64 z1))] (Lv env 53 Try.f53 2 res φ)
theorem L1_step (x0:api_Row) (x1:List api_Condition) (z0:Int) (φ:Bool→Prop) (h :
 (if z0<(x1.length:Int) then
 ∃ a1,lget x1 z0=some a1 ∧
 ∃ a3,lget x0.Values a1.Attr=some a3 ∧
 ∃ r5:Int,value_Compare.C a3 a1.Value r5 ∧
 (if a1.Op=2 then
 aggregate_satisfies.L2 x0 x1 ((r5 != 0)) z0 φ
 else
 (if a1.Op=3 then
 aggregate_satisfies.L2 x0 x1 ((decide (r5<0))) z0 φ
 else
 (if a1.Op=4 then
 aggregate_satisfies.L2 x0 x1 ((decide (r5≤0))) z0 φ
 else
 aggregate_satisfies.L2 x0 x1 ((r5 == 0)) z0 φ)))
 else
 φ true)):L1 x0 x1 z0 φ:=
 mIn <|
 mAsk 2 h dT dF (fun h=>
 mIx 4 enc_api_Condition h fun a1 h2 h=>
 mIx 9 enc_api_Value h fun a3 h4 h=>
 mCal 3 h (fun _ h=>h) fun r5 _ h=>
 mCon 15 h beq_t beq_f (fun h=>
 mFin 5 h) fun h=>
 mCon 4 h beq_t beq_f (fun h=>
 mFin 5 h) fun h=>
 mCon 4 h beq_t beq_f (fun h=>
 mFin 5 h) fun h=>
 mFin 1 h) fun h=>
 mRet 6 h
theorem enter (x0:api_Row) (x1:List api_Condition) (φ:Bool→Prop) (h :
 aggregate_satisfies.L1 x0 x1 0 φ):∃ r,φ r∧C x0 x1 r:=
 mEnt (fd:=Try.f53) (body:=B) (V:=W) (res:=res) <|
 mLen 6 enc_api_Condition x1 <|
 mFin 2 h
end aggregate_satisfies
end Go.Own
namespace Go.Own
open Go.Proofs D
set_option maxRecDepth 100000
set_option maxHeartbeats 4000000
namespace aggregate_text
noncomputable def B:Code:=(Try.f59.body).getD .skip
def W:List Nat:=[0,1,2,4,5,6,7,8,9,11,12,13,14,22]
def res (r:ByteArray):D×List D:=(.lit (.string r),[])
def C (x0:api_Row) (x1:Int) (r:ByteArray):Prop:=Ret env 59 [.agg [.lit (.int .i64 x0.ID),.sl (x0.Values.map enc_api_Value)],.lit (.int .u32 x1)] (res r).1 (res r).2
def L1 (x0:api_Row) (x1:Int) (z0:List UInt8) (z1:Int) (φ:ByteArray→Prop):Prop:=Pt env 59 W B [1,1,0,1,0] [(0,.agg [.lit (.int .i64 x0.ID),.sl (x0.Values.map enc_api_Value)]),(1,.lit (.int .u32 x1)),(2,.box [.lit (.int .i64 x0.ID),.sl (x0.Values.map enc_api_Value)]),(5,.bld 154 5 z0),(11,.sl (x0.Values.map enc_api_Value)),(12,.lit (.int .i64 ((x0.Values.length:Int)))),(13,.lit (.int .i64 z1))] (Lv env 59 Try.f59 2 res φ)
def L2 (x0:api_Row) (x1:Int) (z0:List UInt8) (z1:Int) (φ:ByteArray→Prop):Prop:=Pt env 59 W B [1,1,0,1,0,0,1,1,1] [(0,.agg [.lit (.int .i64 x0.ID),.sl (x0.Values.map enc_api_Value)]),(1,.lit (.int .u32 x1)),(2,.box [.lit (.int .i64 x0.ID),.sl (x0.Values.map enc_api_Value)]),(5,.bld 154 5 z0),(11,.sl (x0.Values.map enc_api_Value)),(12,.lit (.int .i64 ((x0.Values.length:Int)))),(13,.lit (.int .i64 z1))] (Lv env 59 Try.f59 2 res φ)
theorem L1_step (x0:api_Row) (x1:Int) (z0:List UInt8) (z1:Int) (φ:ByteArray→Prop) (h :
 (if z1<(x0.Values.length:Int) then
 ∃ a1,lget x0.Values z1=some a1 ∧
 0≤z1 ∧
 (if (bAnd .u32 (shrw .u32 x1 z1) 1)=1 then
 ∃ r4:ByteArray×Int,value_Key.C a1 r4 ∧
 z0.length+r4.1.size≤140737488355328 ∧
 aggregate_text.L2 x0 x1 ((z0++r4.1.data.toList)) z1 φ
 else
 aggregate_text.L2 x0 x1 z0 z1 φ)
 else
 φ ((bstr z0)))):L1 x0 x1 z0 z1 φ:=
 mIn <|
 mAsk 2 h dT dF (fun h=>
 mIx 5 enc_api_Value h fun a1 h2 h=>
 h.elim fun h3 h=>
 mBi 8 (bin_shr (t:=36) (q:=.u32) (q':=.i64) (i1:=x1) h3) <|
 mAsk 1 h beq_t beq_f (fun h=>
 mCal 4 h (fun _ h=>h) (hf:=(fun _=>clF_flat (flat_tup (flts_cons rfl (flts_cons rfl flts_nil))) rfl)) fun r4 _ h=>
 h.elim fun h5 h=>
 mCalP 8 (show Ret env 89 [.bld 154 5 z0,.lit (.string r4.1)] (.tup [.lit (.int .i64 ((bsize r4.1))),.lit .nilIface]) [.bld 154 5 ((z0++r4.1.data.toList))] from ret_write (by kernel_rfl) h5) <|
 mFin 1 h) fun h=>
 mFin 3 h) fun h=>
 mCalP 4 (show Ret env 90 [.bld 154 5 z0] (.lit (.string ((bstr z0)))) [.box [.undef,.undef]] from ret_string (by kernel_rfl)) <|
 mRet 2 h
theorem L2_step (x0:api_Row) (x1:Int) (z0:List UInt8) (z1:Int) (φ:ByteArray→Prop) (h :
 aggregate_text.L1 x0 x1 z0 ((IntKind.wrap .i64 (z1+1))) φ):L2 x0 x1 z0 z1 φ:=
 mIn <|
 mFin 4 h
theorem enter (x0:api_Row) (x1:Int) (φ:ByteArray→Prop) (h :
 aggregate_text.L1 x0 x1 ([]) 0 φ):∃ r,φ r∧C x0 x1 r:=
 mEnt (fd:=Try.f59) (body:=B) (V:=W) (res:=res) <|
 mLen 10 enc_api_Value x0.Values <|
 mFin 2 h
end aggregate_text
end Go.Own
namespace Go.Own
open Go.Proofs D
set_option maxRecDepth 100000
set_option maxHeartbeats 4000000
namespace aggregate_total_normal
noncomputable def B:Code:=(Try.f91.body).getD .skip
def W:List Nat:=[0,1,2]
def res (r:aggregate_total):D×List D:=(.agg [.lit (.int .i64 r.high),.lit (.int .i64 r.low)],[])
def C (x0 r:aggregate_total):Prop:=Ret env 91 [.agg [.lit (.int .i64 x0.high),.lit (.int .i64 x0.low)]] (res r).1 (res r).2
theorem enter (x0:aggregate_total) (φ:aggregate_total→Prop) (h :
 φ ((⟨(IntKind.wrap .i64 (x0.high+(shrw .i64 x0.low 32))),(bAnd .i64 x0.low 4294967295)⟩:aggregate_total))):∃ r,φ r∧C x0 r:=
 mEnt (fd:=Try.f91) (body:=B) (V:=W) (res:=res) <|
 mRet 17 h
end aggregate_total_normal
end Go.Own
namespace Go.Own
open Go.Proofs D
set_option maxRecDepth 100000
set_option maxHeartbeats 4000000
namespace aggregate_total_plus
noncomputable def B:Code:=(Try.f60.body).getD .skip
def W:List Nat:=[0,1,2,3,6]
def res (r:aggregate_total):D×List D:=(.agg [.lit (.int .i64 r.high),.lit (.int .i64 r.low)],[])
def C (x0:aggregate_total) (x1 x2:Int) (r:aggregate_total):Prop:=Ret env 60 [.agg [.lit (.int .i64 x0.high),.lit (.int .i64 x0.low)],.lit (.int .i64 x1),.lit (.int .i64 x2)] (res r).1 (res r).2
theorem enter (x0:aggregate_total) (x1 x2:Int) (φ:aggregate_total→Prop) (h :
 ∃ r1:aggregate_total,aggregate_total_normal.C ((⟨(IntKind.wrap .i64 (x0.high+(IntKind.wrap .i64 ((shrw .i64 x1 32)*x2)))),(IntKind.wrap .i64 (x0.low+(IntKind.wrap .i64 ((bAnd .i64 x1 4294967295)*x2))))⟩:aggregate_total)) r1 ∧
 φ r1):∃ r,φ r∧C x0 x1 x2 r:=
 mEnt (fd:=Try.f60) (body:=B) (V:=W) (res:=res) <|
 mCal 20 h (fun _ h=>h) (hf:=(fun _=>clF_flat (flat_agg (flts_cons rfl (flts_cons rfl flts_nil))) rfl)) fun r1 _ h=>
 mRet 2 h
end aggregate_total_plus
end Go.Own
namespace Go.Own
open Go.Proofs D
set_option maxRecDepth 100000
set_option maxHeartbeats 4000000
namespace aggregate_groups
noncomputable def B:Code:=(Try.f32.body).getD .skip
def W:List Nat:=[0,1,2,3,4,5,10,11,12,13,15,16,17,18,19,20,21,22,23,24,28,29,30,31,46,64,111,112,121,131,140]
def res (r:List (List aggregate_group)):D×List D:=(.own (r.map (eOw enc_aggregate_group)),[])
def C (x0:api_Table) (x1:Int) (x2:List api_Condition) (x3 x4:Int) (r:List (List aggregate_group)):Prop:=Ret env 32 [.agg [.lit (.string x0.Name),.sl (x0.Attrs.map eS),.sl (x0.Rows.map enc_api_Row)],.lit (.int .u32 x1),.sl (x2.map enc_api_Condition),.lit (.int .i64 x3),.lit (.int .i64 x4)] (res r).1 (res r).2
def L1 (x0:api_Table) (x1:Int) (x2:List api_Condition) (x3 x4:Int) (z0:List (List aggregate_group)) (z1:List (ByteArray×Int)) (z2:List (ByteArray×(Int×Int))) (z3:Int) (φ:List (List aggregate_group)→Prop):Prop:=Pt env 32 W B [1,1,1,0,1,0] [(0,.agg [.lit (.string x0.Name),.sl (x0.Attrs.map eS),.sl (x0.Rows.map enc_api_Row)]),(1,.lit (.int .u32 x1)),(2,.sl (x2.map enc_api_Condition)),(3,.lit (.int .i64 x3)),(4,.lit (.int .i64 x4)),(5,.box [.lit (.string x0.Name),.sl (x0.Attrs.map eS),.sl (x0.Rows.map enc_api_Row)]),(11,.own (z0.map (eOw enc_aggregate_group))),(12,(eMap Value.string (fun (x:Int)=>D.lit (.int .i64 x)) z1)),(13,(eMap Value.string (fun (x:(Int×Int))=>D.agg [.lit (.int .i64 x.1),.lit (.int .i64 x.2)]) z2)),(28,.sl (x0.Rows.map enc_api_Row)),(29,.lit (.int .i64 ((x0.Rows.length:Int)))),(30,.lit (.int .i64 z3))] (Lv env 32 Try.f32 5 res φ)
def L4 (x0:api_Table) (x1:Int) (x2:List api_Condition) (x3 x4:Int) (z0:List (List aggregate_group)) (z1:List (ByteArray×Int)) (z2:List (ByteArray×(Int×Int))) (a1:api_Row) (r3 r4:ByteArray) (z3:Int) (φ:List (List aggregate_group)→Prop):Prop:=Pt env 32 W B [1,1,1,0,1,0,0,1,1,0,0,1,1,1,0] [(0,.agg [.lit (.string x0.Name),.sl (x0.Attrs.map eS),.sl (x0.Rows.map enc_api_Row)]),(1,.lit (.int .u32 x1)),(2,.sl (x2.map enc_api_Condition)),(3,.lit (.int .i64 x3)),(4,.lit (.int .i64 x4)),(5,.box [.lit (.string x0.Name),.sl (x0.Attrs.map eS),.sl (x0.Rows.map enc_api_Row)]),(11,.own (z0.map (eOw enc_aggregate_group))),(12,(eMap Value.string (fun (x:Int)=>D.lit (.int .i64 x)) z1)),(13,(eMap Value.string (fun (x:(Int×Int))=>D.agg [.lit (.int .i64 x.1),.lit (.int .i64 x.2)]) z2)),(15,.box [.lit (.int .i64 a1.ID),.sl (a1.Values.map enc_api_Value)]),(16,.lit (.string r3)),(17,.lit (.string r4)),(28,.sl (x0.Rows.map enc_api_Row)),(29,.lit (.int .i64 ((x0.Rows.length:Int)))),(30,.lit (.int .i64 z3))] (Lv env 32 Try.f32 5 res φ)
def L3 (x0:api_Table) (x1:Int) (x2:List api_Condition) (x3 x4:Int) (z0:List (List aggregate_group)) (z1:List (ByteArray×Int)) (z2:List (ByteArray×(Int×Int))) (a1:api_Row) (r4:ByteArray) (z3 z4:Int) (φ:List (List aggregate_group)→Prop):Prop:=Pt env 32 W B [1,1,1,0,1,0,0,1,1,0,0,1,1,1,1,1,0] [(0,.agg [.lit (.string x0.Name),.sl (x0.Attrs.map eS),.sl (x0.Rows.map enc_api_Row)]),(1,.lit (.int .u32 x1)),(2,.sl (x2.map enc_api_Condition)),(3,.lit (.int .i64 x3)),(4,.lit (.int .i64 x4)),(5,.box [.lit (.string x0.Name),.sl (x0.Attrs.map eS),.sl (x0.Rows.map enc_api_Row)]),(11,.own (z0.map (eOw enc_aggregate_group))),(12,(eMap Value.string (fun (x:Int)=>D.lit (.int .i64 x)) z1)),(13,(eMap Value.string (fun (x:(Int×Int))=>D.agg [.lit (.int .i64 x.1),.lit (.int .i64 x.2)]) z2)),(15,.box [.lit (.int .i64 a1.ID),.sl (a1.Values.map enc_api_Value)]),(17,.lit (.string r4)),(20,.lit (.int .i64 z3)),(28,.sl (x0.Rows.map enc_api_Row)),(29,.lit (.int .i64 ((x0.Rows.length:Int)))),(30,.lit (.int .i64 z4))] (Lv env 32 Try.f32 5 res φ)
def L2 (x0:api_Table) (x1:Int) (x2:List api_Condition) (x3 x4:Int) (z0:List (List aggregate_group)) (z1:List (ByteArray×Int)) (z2:List (ByteArray×(Int×Int))) (z3:Int) (φ:List (List aggregate_group)→Prop):Prop:=Pt env 32 W B [1,1,1,0,1,0,0,1,1,1] [(0,.agg [.lit (.string x0.Name),.sl (x0.Attrs.map eS),.sl (x0.Rows.map enc_api_Row)]),(1,.lit (.int .u32 x1)),(2,.sl (x2.map enc_api_Condition)),(3,.lit (.int .i64 x3)),(4,.lit (.int .i64 x4)),(5,.box [.lit (.string x0.Name),.sl (x0.Attrs.map eS),.sl (x0.Rows.map enc_api_Row)]),(11,.own (z0.map (eOw enc_aggregate_group))),(12,(eMap Value.string (fun (x:Int)=>D.lit (.int .i64 x)) z1)),(13,(eMap Value.string (fun (x:(Int×Int))=>D.agg [.lit (.int .i64 x.1),.lit (.int .i64 x.2)]) z2)),(28,.sl (x0.Rows.map enc_api_Row)),(29,.lit (.int .i64 ((x0.Rows.length:Int)))),(30,.lit (.int .i64 z3))] (Lv env 32 Try.f32 5 res φ)
theorem L1_step (x0:api_Table) (x1:Int) (x2:List api_Condition) (x3 x4:Int) (z0:List (List aggregate_group)) (z1:List (ByteArray×Int)) (z2:List (ByteArray×(Int×Int))) (z3:Int) (φ:List (List aggregate_group)→Prop) (h :
 (if z3<(x0.Rows.length:Int) then
 ∃ a1,lget x0.Rows z3=some a1 ∧
 ∃ r3:ByteArray,aggregate_text.C a1 x1 r3 ∧
 ∃ r4:ByteArray,aggregate_text.C a1 4294967295 r4 ∧
 (if (mhas r3 z1)=true then
 aggregate_groups.L4 x0 x1 x2 x3 x4 z0 z1 z2 a1 r3 r4 z3 φ
 else
 (z0.length+1)*24≤140737488355328 ∧
 aggregate_groups.L4 x0 x1 x2 x3 x4 ((z0++[[]])) ((mset r3 (z0.length:Int) z1)) z2 a1 r3 r4 z3 φ)
 else
 φ z0)):L1 x0 x1 x2 x3 x4 z0 z1 z2 z3 φ:=
 mIn <|
 mAsk 2 h dT dF (fun h=>
 mIx 4 enc_api_Row h fun a1 h2 h=>
 mLo 7 h (fun _ h=>h) fun r3 _ h=>
 mCal 1 h (fun _ h=>h) fun r4 _ h=>
 mVl 6 (val_lookup_t kb_str (fun _=>by kernel_rfl) (ek:=Value.string) (ev:=(fun (x:Int)=>D.lit (.int .i64 x))) (t:=123) (x:=(.tmp 40)) (kx:=(.tmp 41)) (s:=12) (ps:=[]) (l:=z1) (kd:=.lit (.string r3)) (kv:=r3) (kt:=9) (vt:=3) (v0:=0) (by kernel_rfl) (by kernel_rfl) (by kernel_rfl) (by kernel_rfl) (by kernel_rfl) (by kernel_rfl) (by kernel_rfl) (by kernel_rfl)) <|
 mAsk 7 h id fls (fun h=>
 mFin 4 h) fun h=>
 mLen 7 (eOw enc_aggregate_group) z0 <|
 mOp 0 (op_mapUpdate kb_str (fun _=>by kernel_rfl) (ek:=Value.string) (ev:=(fun (x:Int)=>D.lit (.int .i64 x))) (t:=123) (mx:=(.tmp 47)) (kx:=(.tmp 48)) (vx:=(.tmp 50)) (s:=12) (ps:=[]) (l:=z1) (kd:=.lit (.string r3)) (kv:=r3) (kt:=9) (vt:=3) (v:=(z0.length:Int)) (d:=.lit (.int .i64 ((z0.length:Int)))) (by kernel_rfl) (by kernel_rfl) (by kernel_rfl) (by kernel_rfl) (by kernel_rfl) (by kernel_rfl) (by kernel_rfl) (by kernel_rfl) (by kernel_rfl) (setG_eq (by kernel_rfl))) <|
 mApp 4 (eOw enc_aggregate_group) z0 ([[]]) h fun h=>
 mFin 2 h) fun h=>
 mRet 7 h
theorem L4_step (x0:api_Table) (x1:Int) (x2:List api_Condition) (x3 x4:Int) (z0:List (List aggregate_group)) (z1:List (ByteArray×Int)) (z2:List (ByteArray×(Int×Int))) (a1:api_Row) (r3 r4:ByteArray) (z3:Int) (φ:List (List aggregate_group)→Prop) (h :
 (if (mhas r4 z2)=true then
 aggregate_groups.L3 x0 x1 x2 x3 x4 z0 z1 z2 a1 r4 ((mgetD r3 z1 0)) z3 φ
 else
 ∃ a6,lget z0 ((mgetD r3 z1 0))=some a6 ∧
 ∃ r8:Bool,aggregate_satisfies.C a1 x2 r8 ∧
 (a6.length+1)*80≤140737488355328 ∧
 aggregate_groups.L3 x0 x1 x2 x3 x4 ((lset z0 (mgetD r3 z1 0) (a6++[(⟨[],r8,(⟨0,0,(⟨#[]⟩:ByteArray)⟩:api_Value),(⟨0,0⟩:aggregate_total)⟩:aggregate_group)]))) z1 ((mset r4 ⟨(mgetD r3 z1 0),(a6.length:Int)⟩ z2)) a1 r4 ((mgetD r3 z1 0)) z3 φ)):L4 x0 x1 x2 x3 x4 z0 z1 z2 a1 r3 r4 z3 φ:=
 mIn <|
 mVl 3 (val_lookup_f kb_str (fun _=>by kernel_rfl) (ek:=Value.string) (ev:=(fun (x:Int)=>D.lit (.int .i64 x))) (t:=123) (x:=(.tmp 54)) (kx:=(.tmp 55)) (s:=12) (ps:=[]) (l:=z1) (kd:=.lit (.string r3)) (kv:=r3) (kt:=9) (vt:=3) (v0:=0) (by kernel_rfl) (by kernel_rfl) (by kernel_rfl) (by kernel_rfl) (by kernel_rfl) (by kernel_rfl) (by kernel_rfl) (by kernel_rfl)) <|
 mVl 5 (val_lookup_t kb_str (fun _=>by kernel_rfl) (ek:=Value.string) (ev:=(fun (x:(Int×Int))=>D.agg [.lit (.int .i64 x.1),.lit (.int .i64 x.2)])) (t:=124) (x:=(.tmp 58)) (kx:=(.tmp 59)) (s:=13) (ps:=[]) (l:=z2) (kd:=.lit (.string r4)) (kv:=r4) (kt:=9) (vt:=127) (v0:=⟨0,0⟩) (by kernel_rfl) (by kernel_rfl) (by kernel_rfl) (by kernel_rfl) (by kernel_rfl) (by kernel_rfl) (by kernel_rfl) (by kernel_rfl)) <|
 mAsk 8 h id fls (fun h=>
 mFin 4 h) fun h=>
 mIy 9 (eOw enc_aggregate_group) h fun a6 h7 h=>
 mLd 0 (eOw enc_aggregate_group) h7 <|
 mVl 0 (val_len (x:=(.tmp 71)) (t:=91) (et:=101) (d:=.alias 11 [((((mgetD r3 z1 0)).toNat),0)]) (e:=enc_aggregate_group) (l:=a6) (by kernel_rfl) (by kernel_rfl) (elemsOf_ow (getAt_el (ps:=[]) (e:=(eOw enc_aggregate_group)) (l:=z0) (n:=(((mgetD r3 z1 0)).toNat)) (a:=a6) (c:=0) (by kernel_rfl) (lget_some h7).2 (by kernel_rfl))) (by kernel_rfl)) <|
 mOp 1 (op_mapUpdate kb_str (fun _=>by kernel_rfl) (ek:=Value.string) (ev:=(fun (x:(Int×Int))=>D.agg [.lit (.int .i64 x.1),.lit (.int .i64 x.2)])) (t:=124) (mx:=(.tmp 65)) (kx:=(.tmp 66)) (vx:=(.tmp 73)) (s:=13) (ps:=[]) (l:=z2) (kd:=.lit (.string r4)) (kv:=r4) (kt:=9) (vt:=127) (v:=⟨(mgetD r3 z1 0),(a6.length:Int)⟩) (d:=.agg [.lit (.int .i64 ((mgetD r3 z1 0))),.lit (.int .i64 ((a6.length:Int)))]) (by kernel_rfl) (by kernel_rfl) (by kernel_rfl) (by kernel_rfl) (by kernel_rfl) (by kernel_rfl) (by kernel_rfl) (by kernel_rfl) (by kernel_rfl) (setG_eq (by kernel_rfl))) <|
 mIyf 6 (eOw enc_aggregate_group) h7 <|
 mLd 0 (eOw enc_aggregate_group) h7 <|
 mLo 2 h (fun _ h=>h) fun r8 _ h=>
 h.elim fun h9 h=>
 mActL 2 (app2 (x:=(.tmp 79)) (y:=(.tmp 84)) (t:=91) (u:=91) (et:=101) (z:=.agg [.own [],.lit (.bool false),.lit (.int .i64 0),.lit (.int .i64 0),.lit (.string ((⟨#[]⟩:ByteArray))),.lit (.int .i64 0),.lit (.int .i64 0)]) (k:=7) (c:=80) (e:=enc_aggregate_group) (l:=a6) (m:=[(⟨[],r8,(⟨0,0,(⟨#[]⟩:ByteArray)⟩:api_Value),(⟨0,0⟩:aggregate_total)⟩:aggregate_group)]) (by kernel_rfl) (by kernel_rfl) (by kernel_rfl) (by kernel_rfl) (by kernel_rfl) (take_el (s:=11) (ps:=[]) (n:=(((mgetD r3 z1 0)).toNat)) (c:=0) (e:=(eOw enc_aggregate_group)) (l:=z0) (a:=a6) (by kernel_rfl) (by kernel_rfl) (lget_some h7).2 (by kernel_rfl) (by kernel_rfl) (setG_eq (by kernel_rfl))) (by kernel_rfl) (by kernel_rfl) (by kernel_rfl) (by kernel_rfl) (by kernel_rfl) (fun _=>rfl) h9) <|
 mVl 0 (val_idx_hole (s:=11) (ps:=[]) (cs:=[.undef]) (t:=89) (x:=(.tmp 74)) (ix:=(.tmp 75)) (et:=91) (k:=1) (e:=(eOw enc_aggregate_group)) (l:=z0) (i:=(mgetD r3 z1 0)) (q:=.i64) (a:=a6) (by kernel_rfl) (by kernel_rfl) (by kernel_rfl) (by kernel_rfl) (by kernel_rfl) (by kernel_rfl) h7 (by kernel_rfl)) <|
 mOp 0 (store2 (t:=91) (x:=(.tmp 86)) (y:=(.tmp 85)) (s:=11) (ps:=[]) (n:=(((mgetD r3 z1 0)).toNat)) (e:=(eOw enc_aggregate_group)) (l:=z0) (a:=a6) (b:=(a6++[(⟨[],r8,(⟨0,0,(⟨#[]⟩:ByteArray)⟩:api_Value),(⟨0,0⟩:aggregate_total)⟩:aggregate_group)])) (k:=1) (cs:=[.undef]) (d:=.own (((a6++[(⟨[],r8,(⟨0,0,(⟨#[]⟩:ByteArray)⟩:api_Value),(⟨0,0⟩:aggregate_total)⟩:aggregate_group)])).map enc_aggregate_group)) (by kernel_rfl) (by kernel_rfl) (by kernel_rfl) (by kernel_rfl) (lget_some h7).2 (by kernel_rfl) (by kernel_rfl) (by kernel_rfl) (by kernel_rfl) (by kernel_rfl) (setG_eq (by kernel_rfl))) <|
 mFin 1 h
theorem L3_step (x0:api_Table) (x1:Int) (x2:List api_Condition) (x3 x4:Int) (z0:List (List aggregate_group)) (z1:List (ByteArray×Int)) (z2:List (ByteArray×(Int×Int))) (a1:api_Row) (r4:ByteArray) (z3 z4:Int) (φ:List (List aggregate_group)→Prop) (h :
 ∃ a10,lget z0 z3=some a10 ∧
 ∃ a12,lget a10 (((mgetD r4 z2 ⟨0,0⟩)).2)=some a12 ∧
 (a12.ids.length+1)*8≤140737488355328 ∧
 (if a12.ok=true then
 (if x3=1 then
 ∃ r15:aggregate_total,aggregate_total_plus.C a12.sum 1 1 r15 ∧
 aggregate_groups.L2 x0 x1 x2 x3 x4 ((lset (lset z0 z3 (lset a10 ((mgetD r4 z2 ⟨0,0⟩)).2 (⟨(a12.ids++[a1.ID]),a12.ok,a12.value,a12.sum⟩:aggregate_group))) z3 (lset (lset a10 ((mgetD r4 z2 ⟨0,0⟩)).2 (⟨(a12.ids++[a1.ID]),a12.ok,a12.value,a12.sum⟩:aggregate_group)) ((mgetD r4 z2 ⟨0,0⟩)).2 (⟨(a12.ids++[a1.ID]),a12.ok,a12.value,r15⟩:aggregate_group)))) z1 z2 z4 φ
 else
 (if x3=2 then
 ∃ a16,lget a1.Values x4=some a16 ∧
 (if a16.Kind=1 then
 ∃ r18:aggregate_total,aggregate_total_plus.C a12.sum a16.Num 1 r18 ∧
 aggregate_groups.L2 x0 x1 x2 x3 x4 ((lset (lset z0 z3 (lset a10 ((mgetD r4 z2 ⟨0,0⟩)).2 (⟨(a12.ids++[a1.ID]),a12.ok,a12.value,a12.sum⟩:aggregate_group))) z3 (lset (lset a10 ((mgetD r4 z2 ⟨0,0⟩)).2 (⟨(a12.ids++[a1.ID]),a12.ok,a12.value,a12.sum⟩:aggregate_group)) ((mgetD r4 z2 ⟨0,0⟩)).2 (⟨(a12.ids++[a1.ID]),a12.ok,a12.value,r18⟩:aggregate_group)))) z1 z2 z4 φ
 else
 aggregate_groups.L2 x0 x1 x2 x3 x4 ((lset z0 z3 (lset a10 ((mgetD r4 z2 ⟨0,0⟩)).2 (⟨(a12.ids++[a1.ID]),a12.ok,a12.value,a12.sum⟩:aggregate_group)))) z1 z2 z4 φ)
 else
 ∃ a19,lget a1.Values x4=some a19 ∧
 aggregate_groups.L2 x0 x1 x2 x3 x4 ((lset (lset z0 z3 (lset a10 ((mgetD r4 z2 ⟨0,0⟩)).2 (⟨(a12.ids++[a1.ID]),a12.ok,a12.value,a12.sum⟩:aggregate_group))) z3 (lset (lset a10 ((mgetD r4 z2 ⟨0,0⟩)).2 (⟨(a12.ids++[a1.ID]),a12.ok,a12.value,a12.sum⟩:aggregate_group)) ((mgetD r4 z2 ⟨0,0⟩)).2 (⟨(a12.ids++[a1.ID]),a12.ok,a19,a12.sum⟩:aggregate_group)))) z1 z2 z4 φ))
 else
 aggregate_groups.L2 x0 x1 x2 x3 x4 ((lset z0 z3 (lset a10 ((mgetD r4 z2 ⟨0,0⟩)).2 (⟨(a12.ids++[a1.ID]),a12.ok,a12.value,a12.sum⟩:aggregate_group)))) z1 z2 z4 φ)):L3 x0 x1 x2 x3 x4 z0 z1 z2 a1 r4 z3 z4 φ:=
 mIn <|
 mIy 3 (eOw enc_aggregate_group) h fun a10 h11 h=>
 mLd 0 (eOw enc_aggregate_group) h11 <|
 mVl 2 (val_lookup_f kb_str (fun _=>by kernel_rfl) (ek:=Value.string) (ev:=(fun (x:(Int×Int))=>D.agg [.lit (.int .i64 x.1),.lit (.int .i64 x.2)])) (t:=124) (x:=(.tmp 91)) (kx:=(.tmp 92)) (s:=13) (ps:=[]) (l:=z2) (kd:=.lit (.string r4)) (kv:=r4) (kt:=9) (vt:=127) (v0:=⟨0,0⟩) (by kernel_rfl) (by kernel_rfl) (by kernel_rfl) (by kernel_rfl) (by kernel_rfl) (by kernel_rfl) (by kernel_rfl) (by kernel_rfl)) <|
 h.elim fun a12 h=>h.elim fun h13 h=>
 mVl 1 (val_idx_ow (s:=11) (ps:=[((z3.toNat),0)]) (t:=91) (x:=(.tmp 90)) (ix:=(.tmp 94)) (et:=101) (k:=7) (e:=enc_aggregate_group) (l:=a10) (i:=((mgetD r4 z2 ⟨0,0⟩)).2) (q:=.i64) (a:=a12) (by kernel_rfl) (by kernel_rfl) (getAt_el (ps:=[]) (e:=(eOw enc_aggregate_group)) (l:=z0) (n:=(z3.toNat)) (a:=a10) (c:=0) (by kernel_rfl) (lget_some h11).2 (by kernel_rfl)) (by kernel_rfl) (by kernel_rfl) (by kernel_rfl) h13 (by kernel_rfl)) <|
 mVl 7 (val_load_ow (t:=58) (x:=(.tmp 99)) (s:=11) (ps:=[((z3.toNat),0)]) (n:=((((mgetD r4 z2 ⟨0,0⟩)).2).toNat)) (c:=0) (e:=enc_aggregate_group) (l:=a10) (a:=a12) (d:=.alias 11 [((z3.toNat),0),(((((mgetD r4 z2 ⟨0,0⟩)).2).toNat),0)]) (by kernel_rfl) (by kernel_rfl) (getAt_el (ps:=[]) (e:=(eOw enc_aggregate_group)) (l:=z0) (n:=(z3.toNat)) (a:=a10) (c:=0) (by kernel_rfl) (lget_some h11).2 (by kernel_rfl)) (by kernel_rfl) (lget_some h13).2 (by kernel_rfl)) <|
 h.elim fun h14 h=>
 mActL 3 (app2 (x:=(.tmp 100)) (y:=(.tmp 103)) (t:=58) (u:=58) (et:=2) (z:=.lit (.int .i64 0)) (k:=1) (c:=8) (e:=(eI .i64)) (l:=a12.ids) (m:=[a1.ID]) (by kernel_rfl) (by kernel_rfl) (by kernel_rfl) (by kernel_rfl) (by kernel_rfl) (take_el (s:=11) (ps:=[((z3.toNat),0)]) (n:=((((mgetD r4 z2 ⟨0,0⟩)).2).toNat)) (c:=0) (e:=enc_aggregate_group) (l:=a10) (a:=a12) (by kernel_rfl) (getAt_el (ps:=[]) (e:=(eOw enc_aggregate_group)) (l:=z0) (n:=(z3.toNat)) (a:=a10) (c:=0) (by kernel_rfl) (lget_some h11).2 (by kernel_rfl)) (lget_some h13).2 (by kernel_rfl) (by kernel_rfl) (setAt_el (ps:=[]) (e:=(eOw enc_aggregate_group)) (l:=z0) (n:=(z3.toNat)) (a:=a10) (c:=0) (d':=.own ((a10.map enc_aggregate_group).set (((mgetD r4 z2 ⟨0,0⟩)).2).toNat [.undef,.lit (.bool a12.ok),.lit (.int .i64 a12.value.Kind),.lit (.int .i64 a12.value.Num),.lit (.string a12.value.Str),.lit (.int .i64 a12.sum.high),.lit (.int .i64 a12.sum.low)])) (by kernel_rfl) (lget_some h11).2 (by kernel_rfl) (setG_eq (by kernel_rfl)))) (by kernel_rfl) (by kernel_rfl) (by kernel_rfl) (by kernel_rfl) (by kernel_rfl) (fun _=>rfl) h14) <|
 mOp 2 (store3 (t:=58) (x:=(.tmp 106)) (y:=(.tmp 104)) (s:=11) (ps:=[((z3.toNat),0)]) (n:=((((mgetD r4 z2 ⟨0,0⟩)).2).toNat)) (c:=0) (e:=enc_aggregate_group) (l:=a10) (a:=a12) (b:=(⟨(a12.ids++[a1.ID]),a12.ok,a12.value,a12.sum⟩:aggregate_group)) (k:=1) (cs:=[.undef,.lit (.bool a12.ok),.lit (.int .i64 a12.value.Kind),.lit (.int .i64 a12.value.Num),.lit (.string a12.value.Str),.lit (.int .i64 a12.sum.high),.lit (.int .i64 a12.sum.low)]) (d:=.own (((a12.ids++[a1.ID])).map (eI .i64))) (by kernel_rfl) (by kernel_rfl) (by kernel_rfl) (getAt_hole (ps:=[]) (e:=(eOw enc_aggregate_group)) (l:=z0) (n:=(z3.toNat)) (a:=a10) (c:=0) (cs:=[.own ((a10.map enc_aggregate_group).set (((mgetD r4 z2 ⟨0,0⟩)).2).toNat [.undef,.lit (.bool a12.ok),.lit (.int .i64 a12.value.Kind),.lit (.int .i64 a12.value.Num),.lit (.string a12.value.Str),.lit (.int .i64 a12.sum.high),.lit (.int .i64 a12.sum.low)])]) (by kernel_rfl) (lget_some h11).2 (by kernel_rfl)) (lget_some h13).2 (by kernel_rfl) (by kernel_rfl) (by kernel_rfl) (by kernel_rfl) (by kernel_rfl) (setAt_fill (ps:=[]) (e:=(eOw enc_aggregate_group)) (l:=z0) (n:=(z3.toNat)) (a:=a10) (c:=0) (cs:=[.own ((a10.map enc_aggregate_group).set (((mgetD r4 z2 ⟨0,0⟩)).2).toNat [.undef,.lit (.bool a12.ok),.lit (.int .i64 a12.value.Kind),.lit (.int .i64 a12.value.Num),.lit (.string a12.value.Str),.lit (.int .i64 a12.sum.high),.lit (.int .i64 a12.sum.low)])]) (b:=(lset a10 ((mgetD r4 z2 ⟨0,0⟩)).2 (⟨(a12.ids++[a1.ID]),a12.ok,a12.value,a12.sum⟩:aggregate_group))) (by kernel_rfl) (lget_some h11).2 (by kernel_rfl) (by kernel_rfl) (setG_eq (by kernel_rfl)))) <|
 mAsk 5 h id fls (hv:=(val_load_ow (t:=4) (x:=(.tmp 109)) (s:=11) (ps:=[((z3.toNat),0)]) (n:=((((mgetD r4 z2 ⟨0,0⟩)).2).toNat)) (c:=1) (e:=enc_aggregate_group) (l:=(lset a10 ((mgetD r4 z2 ⟨0,0⟩)).2 (⟨(a12.ids++[a1.ID]),a12.ok,a12.value,a12.sum⟩:aggregate_group))) (a:=(⟨(a12.ids++[a1.ID]),a12.ok,a12.value,a12.sum⟩:aggregate_group)) (d:=.lit (.bool a12.ok)) (by kernel_rfl) (by kernel_rfl) (getAt_el (ps:=[]) (e:=(eOw enc_aggregate_group)) (l:=(lset z0 z3 (lset a10 ((mgetD r4 z2 ⟨0,0⟩)).2 (⟨(a12.ids++[a1.ID]),a12.ok,a12.value,a12.sum⟩:aggregate_group)))) (n:=(z3.toNat)) (a:=(lset a10 ((mgetD r4 z2 ⟨0,0⟩)).2 (⟨(a12.ids++[a1.ID]),a12.ok,a12.value,a12.sum⟩:aggregate_group))) (c:=0) (by kernel_rfl) (lget_some (lls h11)).2 (by kernel_rfl)) (by kernel_rfl) (lget_some (lls h13)).2 (by kernel_rfl))) (fun h=>
 mCon 11 h beq_t beq_f (fun h=>
 mVl 5 (val_load_ow (t:=99) (x:=(.tmp 126)) (s:=11) (ps:=[((z3.toNat),0)]) (n:=((((mgetD r4 z2 ⟨0,0⟩)).2).toNat)) (c:=5) (e:=enc_aggregate_group) (l:=(lset a10 ((mgetD r4 z2 ⟨0,0⟩)).2 (⟨(a12.ids++[a1.ID]),a12.ok,a12.value,a12.sum⟩:aggregate_group))) (a:=(⟨(a12.ids++[a1.ID]),a12.ok,a12.value,a12.sum⟩:aggregate_group)) (d:=.agg [.lit (.int .i64 a12.sum.high),.lit (.int .i64 a12.sum.low)]) (by kernel_rfl) (by kernel_rfl) (getAt_el (ps:=[]) (e:=(eOw enc_aggregate_group)) (l:=(lset z0 z3 (lset a10 ((mgetD r4 z2 ⟨0,0⟩)).2 (⟨(a12.ids++[a1.ID]),a12.ok,a12.value,a12.sum⟩:aggregate_group)))) (n:=(z3.toNat)) (a:=(lset a10 ((mgetD r4 z2 ⟨0,0⟩)).2 (⟨(a12.ids++[a1.ID]),a12.ok,a12.value,a12.sum⟩:aggregate_group))) (c:=0) (by kernel_rfl) (lget_some (lls h11)).2 (by kernel_rfl)) (by kernel_rfl) (lget_some (lls h13)).2 (by kernel_rfl)) <|
 mCal 0 h (fun _ h=>h) (hf:=(fun _=>clF_flat (flat_agg (flts_cons rfl (flts_cons rfl flts_nil))) rfl)) fun r15 _ h=>
 mOp 2 (store1 (t:=99) (x:=(.tmp 130)) (y:=(.tmp 128)) (s:=11) (ps:=[((z3.toNat),0)]) (n:=((((mgetD r4 z2 ⟨0,0⟩)).2).toNat)) (c:=5) (e:=enc_aggregate_group) (l:=(lset a10 ((mgetD r4 z2 ⟨0,0⟩)).2 (⟨(a12.ids++[a1.ID]),a12.ok,a12.value,a12.sum⟩:aggregate_group))) (a:=(⟨(a12.ids++[a1.ID]),a12.ok,a12.value,a12.sum⟩:aggregate_group)) (b:=(⟨(a12.ids++[a1.ID]),a12.ok,a12.value,r15⟩:aggregate_group)) (k:=2) (d:=.agg [.lit (.int .i64 r15.high),.lit (.int .i64 r15.low)]) (by kernel_rfl) (by kernel_rfl) (by kernel_rfl) (getAt_el (ps:=[]) (e:=(eOw enc_aggregate_group)) (l:=(lset z0 z3 (lset a10 ((mgetD r4 z2 ⟨0,0⟩)).2 (⟨(a12.ids++[a1.ID]),a12.ok,a12.value,a12.sum⟩:aggregate_group)))) (n:=(z3.toNat)) (a:=(lset a10 ((mgetD r4 z2 ⟨0,0⟩)).2 (⟨(a12.ids++[a1.ID]),a12.ok,a12.value,a12.sum⟩:aggregate_group))) (c:=0) (by kernel_rfl) (lget_some (lls h11)).2 (by kernel_rfl)) (lget_some (lls h13)).2 (by kernel_rfl) (by kernel_rfl) (by kernel_rfl) (by kernel_rfl) (by kernel_rfl) (setAt_inn (ps:=[]) (e:=(eOw enc_aggregate_group)) (l:=(lset z0 z3 (lset a10 ((mgetD r4 z2 ⟨0,0⟩)).2 (⟨(a12.ids++[a1.ID]),a12.ok,a12.value,a12.sum⟩:aggregate_group)))) (n:=(z3.toNat)) (a:=(lset a10 ((mgetD r4 z2 ⟨0,0⟩)).2 (⟨(a12.ids++[a1.ID]),a12.ok,a12.value,a12.sum⟩:aggregate_group))) (c:=0) (b:=(lset (lset a10 ((mgetD r4 z2 ⟨0,0⟩)).2 (⟨(a12.ids++[a1.ID]),a12.ok,a12.value,a12.sum⟩:aggregate_group)) ((mgetD r4 z2 ⟨0,0⟩)).2 (⟨(a12.ids++[a1.ID]),a12.ok,a12.value,r15⟩:aggregate_group))) (by kernel_rfl) (lget_some (lls h11)).2 (by kernel_rfl) (by kernel_rfl) (setG_eq (by kernel_rfl)))) <|
 mFin 1 h) fun h=>
 mCon 4 h beq_t beq_f (fun h=>
 mIx 4 enc_api_Value h fun a16 h17 h=>
 mAsk 7 h beq_t beq_f (fun h=>
 mVl 7 (val_load_ow (t:=99) (x:=(.tmp 144)) (s:=11) (ps:=[((z3.toNat),0)]) (n:=((((mgetD r4 z2 ⟨0,0⟩)).2).toNat)) (c:=5) (e:=enc_aggregate_group) (l:=(lset a10 ((mgetD r4 z2 ⟨0,0⟩)).2 (⟨(a12.ids++[a1.ID]),a12.ok,a12.value,a12.sum⟩:aggregate_group))) (a:=(⟨(a12.ids++[a1.ID]),a12.ok,a12.value,a12.sum⟩:aggregate_group)) (d:=.agg [.lit (.int .i64 a12.sum.high),.lit (.int .i64 a12.sum.low)]) (by kernel_rfl) (by kernel_rfl) (getAt_el (ps:=[]) (e:=(eOw enc_aggregate_group)) (l:=(lset z0 z3 (lset a10 ((mgetD r4 z2 ⟨0,0⟩)).2 (⟨(a12.ids++[a1.ID]),a12.ok,a12.value,a12.sum⟩:aggregate_group)))) (n:=(z3.toNat)) (a:=(lset a10 ((mgetD r4 z2 ⟨0,0⟩)).2 (⟨(a12.ids++[a1.ID]),a12.ok,a12.value,a12.sum⟩:aggregate_group))) (c:=0) (by kernel_rfl) (lget_some (lls h11)).2 (by kernel_rfl)) (by kernel_rfl) (lget_some (lls h13)).2 (by kernel_rfl)) <|
 mLo 2 h (fun _ h=>h) (hf:=(fun _=>loF_flat (flat_agg (flts_cons rfl (flts_cons rfl flts_nil))))) fun r18 _ h=>
 mOp 2 (store1 (t:=99) (x:=(.tmp 150)) (y:=(.tmp 148)) (s:=11) (ps:=[((z3.toNat),0)]) (n:=((((mgetD r4 z2 ⟨0,0⟩)).2).toNat)) (c:=5) (e:=enc_aggregate_group) (l:=(lset a10 ((mgetD r4 z2 ⟨0,0⟩)).2 (⟨(a12.ids++[a1.ID]),a12.ok,a12.value,a12.sum⟩:aggregate_group))) (a:=(⟨(a12.ids++[a1.ID]),a12.ok,a12.value,a12.sum⟩:aggregate_group)) (b:=(⟨(a12.ids++[a1.ID]),a12.ok,a12.value,r18⟩:aggregate_group)) (k:=2) (d:=.agg [.lit (.int .i64 r18.high),.lit (.int .i64 r18.low)]) (by kernel_rfl) (by kernel_rfl) (by kernel_rfl) (getAt_el (ps:=[]) (e:=(eOw enc_aggregate_group)) (l:=(lset z0 z3 (lset a10 ((mgetD r4 z2 ⟨0,0⟩)).2 (⟨(a12.ids++[a1.ID]),a12.ok,a12.value,a12.sum⟩:aggregate_group)))) (n:=(z3.toNat)) (a:=(lset a10 ((mgetD r4 z2 ⟨0,0⟩)).2 (⟨(a12.ids++[a1.ID]),a12.ok,a12.value,a12.sum⟩:aggregate_group))) (c:=0) (by kernel_rfl) (lget_some (lls h11)).2 (by kernel_rfl)) (lget_some (lls h13)).2 (by kernel_rfl) (by kernel_rfl) (by kernel_rfl) (by kernel_rfl) (by kernel_rfl) (setAt_inn (ps:=[]) (e:=(eOw enc_aggregate_group)) (l:=(lset z0 z3 (lset a10 ((mgetD r4 z2 ⟨0,0⟩)).2 (⟨(a12.ids++[a1.ID]),a12.ok,a12.value,a12.sum⟩:aggregate_group)))) (n:=(z3.toNat)) (a:=(lset a10 ((mgetD r4 z2 ⟨0,0⟩)).2 (⟨(a12.ids++[a1.ID]),a12.ok,a12.value,a12.sum⟩:aggregate_group))) (c:=0) (b:=(lset (lset a10 ((mgetD r4 z2 ⟨0,0⟩)).2 (⟨(a12.ids++[a1.ID]),a12.ok,a12.value,a12.sum⟩:aggregate_group)) ((mgetD r4 z2 ⟨0,0⟩)).2 (⟨(a12.ids++[a1.ID]),a12.ok,a12.value,r18⟩:aggregate_group))) (by kernel_rfl) (lget_some (lls h11)).2 (by kernel_rfl) (by kernel_rfl) (setG_eq (by kernel_rfl)))) <|
 mFin 1 h) fun h=>
 mFin 3 h) fun h=>
 mIx 5 enc_api_Value h fun a19 h20 h=>
 mOp 3 (store1 (t:=28) (x:=(.tmp 120)) (y:=(.tmp 118)) (s:=11) (ps:=[((z3.toNat),0)]) (n:=((((mgetD r4 z2 ⟨0,0⟩)).2).toNat)) (c:=2) (e:=enc_aggregate_group) (l:=(lset a10 ((mgetD r4 z2 ⟨0,0⟩)).2 (⟨(a12.ids++[a1.ID]),a12.ok,a12.value,a12.sum⟩:aggregate_group))) (a:=(⟨(a12.ids++[a1.ID]),a12.ok,a12.value,a12.sum⟩:aggregate_group)) (b:=(⟨(a12.ids++[a1.ID]),a12.ok,a19,a12.sum⟩:aggregate_group)) (k:=3) (d:=.agg [.lit (.int .i64 a19.Kind),.lit (.int .i64 a19.Num),.lit (.string a19.Str)]) (by kernel_rfl) (by kernel_rfl) (by kernel_rfl) (getAt_el (ps:=[]) (e:=(eOw enc_aggregate_group)) (l:=(lset z0 z3 (lset a10 ((mgetD r4 z2 ⟨0,0⟩)).2 (⟨(a12.ids++[a1.ID]),a12.ok,a12.value,a12.sum⟩:aggregate_group)))) (n:=(z3.toNat)) (a:=(lset a10 ((mgetD r4 z2 ⟨0,0⟩)).2 (⟨(a12.ids++[a1.ID]),a12.ok,a12.value,a12.sum⟩:aggregate_group))) (c:=0) (by kernel_rfl) (lget_some (lls h11)).2 (by kernel_rfl)) (lget_some (lls h13)).2 (by kernel_rfl) (by kernel_rfl) (by kernel_rfl) (by kernel_rfl) (by kernel_rfl) (setAt_inn (ps:=[]) (e:=(eOw enc_aggregate_group)) (l:=(lset z0 z3 (lset a10 ((mgetD r4 z2 ⟨0,0⟩)).2 (⟨(a12.ids++[a1.ID]),a12.ok,a12.value,a12.sum⟩:aggregate_group)))) (n:=(z3.toNat)) (a:=(lset a10 ((mgetD r4 z2 ⟨0,0⟩)).2 (⟨(a12.ids++[a1.ID]),a12.ok,a12.value,a12.sum⟩:aggregate_group))) (c:=0) (b:=(lset (lset a10 ((mgetD r4 z2 ⟨0,0⟩)).2 (⟨(a12.ids++[a1.ID]),a12.ok,a12.value,a12.sum⟩:aggregate_group)) ((mgetD r4 z2 ⟨0,0⟩)).2 (⟨(a12.ids++[a1.ID]),a12.ok,a19,a12.sum⟩:aggregate_group))) (by kernel_rfl) (lget_some (lls h11)).2 (by kernel_rfl) (by kernel_rfl) (setG_eq (by kernel_rfl)))) <|
 mFin 1 h) fun h=>
 mFin 4 h
theorem L2_step (x0:api_Table) (x1:Int) (x2:List api_Condition) (x3 x4:Int) (z0:List (List aggregate_group)) (z1:List (ByteArray×Int)) (z2:List (ByteArray×(Int×Int))) (z3:Int) (φ:List (List aggregate_group)→Prop) (h :
 aggregate_groups.L1 x0 x1 x2 x3 x4 z0 z1 z2 ((IntKind.wrap .i64 (z3+1))) φ):L2 x0 x1 x2 x3 x4 z0 z1 z2 z3 φ:=
 mIn <|
 mFin 4 h
theorem enter (x0:api_Table) (x1:Int) (x2:List api_Condition) (x3 x4:Int) (φ:List (List aggregate_group)→Prop) (h :
 aggregate_groups.L1 x0 x1 x2 x3 x4 ([]) ([]) ([]) 0 φ):∃ r,φ r∧C x0 x1 x2 x3 x4 r:=
 mEnt (fd:=Try.f32) (body:=B) (V:=W) (res:=res) <|
 mLen 16 enc_api_Row x0.Rows <|
 mFin 2 h
end aggregate_groups
end Go.Own
namespace Go.Own
open Go.Proofs D
set_option maxRecDepth 100000
set_option maxHeartbeats 4000000
namespace aggregate_keyed
noncomputable def B:Code:=(Try.f31.body).getD .skip
def W:List Nat:=[0,1,2,4,5,9,16]
def res (r:Int):D×List D:=(.lit (.int .i64 r),[])
def C (x0:api_Table) (x1 r:Int):Prop:=Ret env 31 [.agg [.lit (.string x0.Name),.sl (x0.Attrs.map eS),.sl (x0.Rows.map enc_api_Row)],.lit (.int .u32 x1)] (res r).1 (res r).2
theorem enter (x0:api_Table) (x1:Int) (φ:Int→Prop) (h :
 ∃ r1:Int,table_Valid.C x0 r1 ∧
 (if r1=0 then
 0≤(x0.Attrs.length:Int) ∧
 (if (shrw .u32 x1 (x0.Attrs.length:Int))=0 then
 φ 0
 else
 φ 6)
 else
 φ r1)):∃ r,φ r∧C x0 x1 r:=
 mEnt (fd:=Try.f31) (body:=B) (V:=W) (res:=res) <|
 mCal 6 h (fun _ h=>h) fun r1 _ h=>
 mAskN 4 h bne_t bne_f (fun h=>
 mRet 6 h) fun h=>
 mLen 7 eS x0.Attrs <|
 h.elim fun h2 h=>
 mBi 0 (bin_shr (t:=36) (q:=.u32) (q':=.i64) (i1:=x1) h2) <|
 mAskN 0 h bne_t bne_f (fun h=>
 mRet 5 h) fun h=>
 mRet 6 h
end aggregate_keyed
end Go.Own
namespace Go.Own
open Go.Proofs D
set_option maxRecDepth 100000
set_option maxHeartbeats 4000000
namespace aggregate_Repairs
noncomputable def B:Code:=(Try.f10.body).getD .skip
def W:List Nat:=[0,1,2,4,5,6,7,9,14,18,19,20,21,29]
def res (r:Int×Int):D×List D:=(.tup [.lit (.int .i64 r.1),.lit (.int .i64 r.2)],[])
def C (x0:api_Table) (x1:Int) (r:Int×Int):Prop:=Ret env 10 [.agg [.lit (.string x0.Name),.sl (x0.Attrs.map eS),.sl (x0.Rows.map enc_api_Row)],.lit (.int .u32 x1)] (res r).1 (res r).2
def L1 (z0:Int) (r2:List (List aggregate_group)) (z1:Int) (φ:Int×Int→Prop):Prop:=Pt env 10 W B [1,1,1,0,1,0] [(7,.lit (.int .i64 z0)),(18,.own (r2.map (eOw enc_aggregate_group))),(19,.lit (.int .i64 ((r2.length:Int)))),(20,.lit (.int .i64 z1))] (Lv env 10 Try.f10 2 res φ)
theorem L1_step (z0:Int) (r2:List (List aggregate_group)) (z1:Int) (φ:Int×Int→Prop) (h :
 (if z1<(r2.length:Int) then
 ∃ a3,lget r2 z1=some a3 ∧
 (if 1000000000000000<(IntKind.wrap .i64 (z0*(a3.length:Int))) then
 φ ((0,3))
 else
 aggregate_Repairs.L1 ((IntKind.wrap .i64 (z0*(a3.length:Int)))) r2 ((IntKind.wrap .i64 (z1+1))) φ)
 else
 φ ((z0,0)))):L1 z0 r2 z1 φ:=
 mIn <|
 mAsk 2 h dT dF (fun h=>
 mIy 4 (eOw enc_aggregate_group) h fun a3 h4 h=>
 mLd 0 (eOw enc_aggregate_group) h4 <|
 mVl 5 (val_len (x:=(.tmp 25)) (t:=91) (et:=101) (d:=.alias 18 [((z1.toNat),0)]) (e:=enc_aggregate_group) (l:=a3) (by kernel_rfl) (by kernel_rfl) (elemsOf_ow (getAt_el (ps:=[]) (e:=(eOw enc_aggregate_group)) (l:=r2) (n:=(z1.toNat)) (a:=a3) (c:=0) (by kernel_rfl) (lget_some h4).2 (by kernel_rfl))) (by kernel_rfl)) <|
 mAsk 5 h dT dF (fun h=>
 mRet 6 h) fun h=>
 mFin 7 h) fun h=>
 mRet 8 h
theorem enter (x0:api_Table) (x1:Int) (φ:Int×Int→Prop) (h :
 ∃ r1:Int,aggregate_keyed.C x0 x1 r1 ∧
 (if r1=0 then
 ∃ r2:List (List aggregate_group),aggregate_groups.C x0 x1 ([]) 1 0 r2 ∧
 aggregate_Repairs.L1 1 r2 0 φ
 else
 φ ((0,r1)))):∃ r,φ r∧C x0 x1 r:=
 mEnt (fd:=Try.f10) (body:=B) (V:=W) (res:=res) <|
 mCal 8 h (fun _ h=>h) fun r1 _ h=>
 mAskN 4 h bne_t bne_f (fun h=>
 mRet 7 h) fun h=>
 mCal 9 h (fun _ h=>h) (hf:=(fun _=>clF_flat (flat_ow (e:=(eOw enc_aggregate_group)) (Flt.ow (fun _=>(flts_cons (flat_ow (e:=(eI .i64)) (fun _=>rfl)) (flts_cons rfl (flts_cons rfl (flts_cons rfl (flts_cons rfl (flts_cons rfl (flts_cons rfl flts_nil)))))))))) rfl)) fun r2 _ h=>
 mLen 0 (eOw enc_aggregate_group) r2 <|
 mFin 2 h
end aggregate_Repairs
end Go.Own
namespace Go.Own
open Go.Proofs D
set_option maxRecDepth 100000
set_option maxHeartbeats 4000000
namespace drosslaw51_awake
def res (r:Bool):D×List D:=(.lit (.bool r),[])
def C  (r:Bool):Prop:=Ret env 9 [] (res r).1 (res r).2
end drosslaw51_awake
end Go.Own
namespace Go.Own
set_option maxRecDepth 1000000
theorem drosslaw51_awake.run:callN env 400 9 []=some (.lit (.bool true),[]):=by kernel_rfl
theorem drosslaw51_awake.spec:drosslaw51_awake.C true:=Ret.of drosslaw51_awake.run
end Go.Own
namespace Go.Own
open Go.Proofs D
set_option maxRecDepth 100000
set_option maxHeartbeats 4000000
namespace drosslaw51_AggregateMany
noncomputable def B:Code:=(Try.f3.body).getD .skip
def W:List Nat:=[0,1,4,5,6,7,8,9,10,11,13,18,19,20,28,29,30,50,61]
def res (r:Bool):D×List D:=(.lit (.bool r),[])
def C (x0 x1:Int) (r:Bool):Prop:=Ret env 3 [.lit (.int .u8 x0),.lit (.int .u8 x1)] (res r).1 (res r).2
def L1 (x1:Int) (z0:List api_Row) (z1 z2 z3:Int) (φ:Bool→Prop):Prop:=Pt env 3 W B [1,1,1,1,0,1,0] [(1,.lit (.int .u8 x1)),(5,.box [.lit (.string ((⟨#[114]⟩:ByteArray))),.own (([(⟨#[107]⟩:ByteArray),(⟨#[118]⟩:ByteArray)]).map eS),.own (z0.map enc_api_Row_2)]),(6,.lit (.int .i64 z1)),(18,.lit (.int .i64 z2)),(19,.lit (.int .i64 z3))] (Lv env 3 Try.f3 2 res φ)
def L2 (x1:Int) (z0:List api_Row) (z1 z2:Int) (z3 z4:Int) (z5 z6 z7:Int) (φ:Bool→Prop):Prop:=Pt env 3 W B [1,1,1,1,0,1,0,0,1,1,0,0,1,1,0,1,0] [(1,.lit (.int .u8 x1)),(5,.box [.lit (.string ((⟨#[114]⟩:ByteArray))),.own (([(⟨#[107]⟩:ByteArray),(⟨#[118]⟩:ByteArray)]).map eS),.own (z0.map enc_api_Row_2)]),(6,.lit (.int .i64 z1)),(7,.lit (.int .i64 z2)),(8,.lit (.int .i64 z3)),(18,.lit (.int .i64 z4)),(19,.lit (.int .i64 z5)),(28,.lit (.int .i64 z6)),(29,.lit (.int .i64 z7))] (Lv env 3 Try.f3 2 res φ)
def L3 (x1:Int) (z0:List api_Row) (z1 z2 z3:Int) (φ:Bool→Prop):Prop:=Pt env 3 W B [1,1,1,1,0,1,0,0,1,1,1] [(1,.lit (.int .u8 x1)),(5,.box [.lit (.string ((⟨#[114]⟩:ByteArray))),.own (([(⟨#[107]⟩:ByteArray),(⟨#[118]⟩:ByteArray)]).map eS),.own (z0.map enc_api_Row_2)]),(6,.lit (.int .i64 z1)),(18,.lit (.int .i64 z2)),(19,.lit (.int .i64 z3))] (Lv env 3 Try.f3 2 res φ)
theorem L1_step (x1:Int) (z0:List api_Row) (z1 z2 z3:Int) (φ:Bool→Prop) (h :
 (if z3<z2 then
 drosslaw51_AggregateMany.L2 x1 z0 z1 z3 ((IntKind.wrap .i64 (2+(Int.tmod (IntKind.wrap .i64 (z3+(IntKind.wrap .i64 x1))) 2)))) z2 z3 ((IntKind.wrap .i64 (2+(Int.tmod (IntKind.wrap .i64 (z3+(IntKind.wrap .i64 x1))) 2)))) 0 φ
 else
 ∃ r36:Int×Int,aggregate_Repairs.C ((⟨(⟨#[114]⟩:ByteArray),[(⟨#[107]⟩:ByteArray),(⟨#[118]⟩:ByteArray)],z0⟩:api_Table)) 1 r36 ∧
 (if 1000000000000000<z1 then
 (if r36.2=3 then
 φ ((r36.1 == 0))
 else
 φ false)
 else
 (if r36.2=0 then
 φ ((r36.1 == z1))
 else
 φ false)))):L1 x1 z0 z1 z2 z3 φ:=
 mIn <|
 mAsk 2 h dT dF (fun h=>
 mFin 20 h) fun h=>
 mCal 5 h (fun _ h=>h) (hr:=by exact (pr_snap (snap_agg (snaps_cons (d:=.lit (.string ((⟨#[114]⟩:ByteArray)))) (d':=.lit (.string ((⟨#[114]⟩:ByteArray)))) (by kernel_rfl) (snaps_cons (d:=.alias 5 [(0,1)]) (d':=.sl (([(⟨#[107]⟩:ByteArray),(⟨#[118]⟩:ByteArray)]).map eS)) (snap_ow (s:=5) (ps:=[(0,1)]) (l:=[(⟨#[107]⟩:ByteArray),(⟨#[118]⟩:ByteArray)]) (e:=eS) (e':=eS) (fun _=>rfl) (by kernel_rfl)) (snaps_cons (d:=.alias 5 [(0,2)]) (d':=.sl (z0.map enc_api_Row)) (snap_ow (s:=5) (ps:=[(0,2)]) (l:=z0) (e:=enc_api_Row_2) (e':=enc_api_Row) (fun x=>(fcs_cons rfl (fcs_cons (freeze_ow (e:=enc_api_Value) (e':=enc_api_Value) (fun _=>rfl) x.Values) fcs_nil))) (by kernel_rfl)) snaps_nil)))) (pr_k pr_nil))) (hf:=(fun _=>clF_flat (flat_tup (flts_cons rfl (flts_cons rfl flts_nil))) rfl)) fun r36 _ h=>
 mAsk 8 h dT dF (fun h=>
 mAsk 4 h beq_t beq_f (fun h=>
 mRet 6 h) fun h=>
 mRet 6 h) fun h=>
 mAsk 5 h beq_t beq_f (fun h=>
 mRet 7 h) fun h=>
 mRet 7 h
theorem L2_step (x1:Int) (z0:List api_Row) (z1 z2:Int) (z3 z4:Int) (z5 z6 z7:Int) (φ:Bool→Prop) (h :
 (if z7<z6 then
 (z0.length+1)*32≤140737488355328 ∧
 drosslaw51_AggregateMany.L2 x1 ((z0++[(⟨(IntKind.wrap .i64 ((IntKind.wrap .i64 ((IntKind.wrap .i64 (3*z2))+z7))+1)),[(⟨1,z2,(⟨#[]⟩:ByteArray)⟩:api_Value),(⟨1,z7,(⟨#[]⟩:ByteArray)⟩:api_Value)]⟩:api_Row)])) z1 z2 z3 z4 z5 z6 ((IntKind.wrap .i64 (z7+1))) φ
 else
 (if z1≤1000000000000000 then
 drosslaw51_AggregateMany.L3 x1 z0 ((IntKind.wrap .i64 (z1*z3))) z4 z5 φ
 else
 drosslaw51_AggregateMany.L3 x1 z0 z1 z4 z5 φ))):L2 x1 z0 z1 z2 z3 z4 z5 z6 z7 φ:=
 mIn <|
 mAsk 2 h dT dF (fun h=>
 mApp 22 enc_api_Row_2 z0 ([(⟨(IntKind.wrap .i64 ((IntKind.wrap .i64 ((IntKind.wrap .i64 (3*z2))+z7))+1)),[(⟨1,z2,(⟨#[]⟩:ByteArray)⟩:api_Value),(⟨1,z7,(⟨#[]⟩:ByteArray)⟩:api_Value)]⟩:api_Row)]) h fun h=>
 mFin 7 h) fun h=>
 mAsk 5 h dT dF (fun h=>
 mFin 8 h) fun h=>
 mFin 3 h
theorem L3_step (x1:Int) (z0:List api_Row) (z1 z2 z3:Int) (φ:Bool→Prop) (h :
 drosslaw51_AggregateMany.L1 x1 z0 z1 z2 ((IntKind.wrap .i64 (z3+1))) φ):L3 x1 z0 z1 z2 z3 φ:=
 mIn <|
 mFin 4 h
theorem enter (x0 x1:Int) (φ:Bool→Prop) (h :
 ∃ r35:Bool,drosslaw51_awake.C  r35 ∧
 (if r35=true then
 drosslaw51_AggregateMany.L1 x1 ([]) 1 ((IntKind.wrap .i64 (Int.tmod x0 60))) 0 φ
 else
 φ false)):∃ r,φ r∧C x0 x1 r:=
 mEnt (fd:=Try.f3) (body:=B) (V:=W) (res:=res) <|
 mCalB 4 h (fun _ h=>h) (fun _ h=>
 mFin 19 h) fun _ h=>
 mRet 6 h
end drosslaw51_AggregateMany
end Go.Own
