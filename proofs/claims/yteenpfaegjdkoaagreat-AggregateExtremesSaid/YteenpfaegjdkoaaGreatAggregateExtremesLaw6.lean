/- What the functions that the law reaches answer. No conditions. -/
import Derived.Test.YteenpfaegjdkoaaGreatBase5
import Derived.Test.YteenpfaegjdkoaaGreatOwn18
import Derived.Test.YteenpfaegjdkoaaGreatBase2
import Derived.Test.YteenpfaegjdkoaaGreatOwn24
set_option linter.all false
namespace Go.Own
open Go.Proofs D
set_option maxRecDepth 100000
set_option maxHeartbeats 4000000
namespace slices_Index_sstring_string
noncomputable def B:Code:=(Tryz.f90.body).getD .skip
def W:List Nat:=[0,1,4,5,7,8,9,16]
def res (r:Int):D×List D:=(.lit (.int .i64 r),[])
def C (x0:List ByteArray) (x1:ByteArray) (r:Int):Prop:=Ret env 90 [.sl (x0.map eS),.lit (.string x1)] (res r).1 (res r).2
def L1 (x0:List ByteArray) (x1:ByteArray) (z0:Int) (φ:Int→Prop):Prop:=Pt env 90 W B [1,0,1,0] [(0,.sl (x0.map eS)),(1,.lit (.string x1)),(7,.lit (.int .i64 ((x0.length:Int)))),(8,.lit (.int .i64 z0))] (Lv env 90 Tryz.f90 2 res φ)
theorem L1_step (x0:List ByteArray) (x1:ByteArray) (z0:Int) (φ:Int→Prop) (h :
 (if z0<(x0.length:Int) then
 ∃ a1,lget x0 z0=some a1 ∧
 (if x1.toList=a1.toList then
 φ z0
 else
 slices_Index_sstring_string.L1 x0 x1 ((IntKind.wrap .i64 (z0+1))) φ)
 else
 φ ((-1)))):L1 x0 x1 z0 φ:=
 mIn <|
 mAsk 2 h dT dF (fun h=>
 mIx 11 eS h fun a1 h2 h=>
 mAsk 1 h seq_t seq_f (fun h=>
 mRet 6 h) fun h=>
 mFin 7 h) fun h=>
 mRet 6 h
theorem enter (x0:List ByteArray) (x1:ByteArray) (φ:Int→Prop) (h :
 slices_Index_sstring_string.L1 x0 x1 0 φ):∃ r,φ r∧C x0 x1 r:=
 mEnt (fd:=Tryz.f90) (body:=B) (V:=W) (res:=res) <|
 mLen 5 eS x0 <|
 mFin 2 h
end slices_Index_sstring_string
end Go.Own
namespace Go.Own
open Go.Proofs D
set_option maxRecDepth 100000
set_option maxHeartbeats 4000000
namespace slices_Contains_sstring_string
noncomputable def B:Code:=(Tryz.f73.body).getD .skip
def W:List Nat:=[0,1,4]
def res (r:Bool):D×List D:=(.lit (.bool r),[])
def C (x0:List ByteArray) (x1:ByteArray) (r:Bool):Prop:=Ret env 73 [.sl (x0.map eS),.lit (.string x1)] (res r).1 (res r).2
theorem enter (x0:List ByteArray) (x1:ByteArray) (φ:Bool→Prop) (h :
 ∃ r1:Int,slices_Index_sstring_string.C x0 x1 r1 ∧
 φ ((decide (0≤r1)))):∃ r,φ r∧C x0 x1 r:=
 mEnt (fd:=Tryz.f73) (body:=B) (V:=W) (res:=res) <|
 mCal 6 h (fun _ h=>h) fun r1 _ h=>
 mRet 3 h
end slices_Contains_sstring_string
end Go.Own
namespace Go.Own
open Go.Proofs D
set_option maxRecDepth 100000
set_option maxHeartbeats 4000000
namespace table_isName
noncomputable def B:Code:=(Tryz.f72.body).getD .skip
def W:List Nat:=[0,2,3,4,5,16,18,19,20,56]
def res (r:Bool):D×List D:=(.lit (.bool r),[])
def C (x0:ByteArray) (r:Bool):Prop:=Ret env 72 [.lit (.string x0)] (res r).1 (res r).2
def L1 (x0:ByteArray) (z0:Int) (φ:Bool→Prop):Prop:=Pt env 72 W B [1,1,0,1,0] [(0,.lit (.string x0)),(18,.lit (.int .i64 ((bsize x0)))),(19,.lit (.int .i64 z0))] (Lv env 72 Tryz.f72 1 res φ)
def L2 (x0:ByteArray) (z0 z1:Int) (z2:Bool) (φ:Bool→Prop):Prop:=Pt env 72 W B [1,1,0,1,0,0,1,1,0,0,1,1,1,0] [(0,.lit (.string x0)),(3,.lit (.int .i64 z0)),(4,.lit (.int .u8 z1)),(5,.lit (.bool z2)),(18,.lit (.int .i64 ((bsize x0)))),(19,.lit (.int .i64 z0))] (Lv env 72 Tryz.f72 1 res φ)
def L3 (x0:ByteArray) (z0:Int) (φ:Bool→Prop):Prop:=Pt env 72 W B [1,1,0,1,0,0,1,1,1] [(0,.lit (.string x0)),(18,.lit (.int .i64 ((bsize x0)))),(19,.lit (.int .i64 z0))] (Lv env 72 Tryz.f72 1 res φ)
theorem L1_step (x0:ByteArray) (z0:Int) (φ:Bool→Prop) (h :
 (if z0<(bsize x0) then
 ∃ b1,((0:Int)≤z0∧x0[(z0).toNat]? = some b1) ∧
 (if 97≤(u8i b1) then
 (if (u8i b1)≤122 then
 table_isName.L2 x0 z0 ((u8i b1)) true φ
 else
 (if 65≤(u8i b1) then
 (if (u8i b1)≤90 then
 table_isName.L2 x0 z0 ((u8i b1)) true φ
 else
 table_isName.L2 x0 z0 ((u8i b1)) (((u8i b1) == 95)) φ)
 else
 table_isName.L2 x0 z0 ((u8i b1)) (((u8i b1) == 95)) φ))
 else
 (if 65≤(u8i b1) then
 (if (u8i b1)≤90 then
 table_isName.L2 x0 z0 ((u8i b1)) true φ
 else
 table_isName.L2 x0 z0 ((u8i b1)) (((u8i b1) == 95)) φ)
 else
 table_isName.L2 x0 z0 ((u8i b1)) (((u8i b1) == 95)) φ))
 else
 φ true)):L1 x0 z0 φ:=
 mIn <|
 mAsk 2 h dT dF (fun h=>
 mSt 10 h fun b1 h=>
 mAsk 4 h dT dF (fun h=>
 mAsk 2 h dT dF (fun h=>
 mFin 15 h) fun h=>
 mAsk 3 h dT dF (fun h=>
 mAsk 2 h dT dF (fun h=>
 mFin 8 h) fun h=>
 mFin 8 h) fun h=>
 mFin 11 h) fun h=>
 mAsk 6 h dT dF (fun h=>
 mAsk 2 h dT dF (fun h=>
 mFin 8 h) fun h=>
 mFin 8 h) fun h=>
 mFin 11 h) fun h=>
 mRet 6 h
theorem L2_step (x0:ByteArray) (z0 z1:Int) (z2:Bool) (φ:Bool→Prop) (h :
 (if z2=true then
 table_isName.L3 x0 z0 φ
 else
 (if z0=0 then
 φ false
 else
 (if z1<48 then
 φ false
 else
 (if 57<z1 then
 φ false
 else
 table_isName.L3 x0 z0 φ))))):L2 x0 z0 z1 z2 φ:=
 mIn <|
 mAsk 1 h id fls (fun h=>
 mFin 16 h) fun h=>
 mAsk 3 h beq_t beq_f (fun h=>
 mRet 14 h) fun h=>
 mAsk 2 h dT dF (fun h=>
 mRet 11 h) fun h=>
 mAsk 3 h dT dF (fun h=>
 mRet 7 h) fun h=>
 mFin 5 h
theorem L3_step (x0:ByteArray) (z0:Int) (φ:Bool→Prop) (h :
 table_isName.L1 x0 ((IntKind.wrap .i64 (z0+1))) φ):L3 x0 z0 φ:=
 mIn <|
 mFin 4 h
theorem enter (x0:ByteArray) (φ:Bool→Prop) (h :
 (if x0.toList=((⟨#[]⟩:ByteArray)).toList then
 φ false
 else
 (if 24<(bsize x0) then
 φ false
 else
 (if x0.toList=((⟨#[110,117,108,108]⟩:ByteArray)).toList then
 φ false
 else
 table_isName.L1 x0 0 φ)))):∃ r,φ r∧C x0 r:=
 mEnt (fd:=Tryz.f72) (body:=B) (V:=W) (res:=res) <|
 mAsk 5 h seq_t seq_f (fun h=>
 mRet 14 h) fun h=>
 mAsk 3 h dT dF (fun h=>
 mRet 10 h) fun h=>
 mAsk 3 h seq_t seq_f (fun h=>
 mRet 6 h) fun h=>
 mFin 9 h
end table_isName
end Go.Own
namespace Go.Own
open Go.Proofs D
set_option maxRecDepth 100000
set_option maxHeartbeats 4000000
namespace value_Valid
noncomputable def B:Code:=(Tryz.f80.body).getD .skip
def W:List Nat:=[0,1,2,4,5,15,20,31]
def res (r:Bool):D×List D:=(.lit (.bool r),[])
def C (x0:api_Value) (r:Bool):Prop:=Ret env 80 [.agg [.lit (.int .i64 x0.Kind),.lit (.int .i64 x0.Num),.lit (.string x0.Str)]] (res r).1 (res r).2
theorem enter (x0:api_Value) (φ:Bool→Prop) (h :
 (if x0.Kind=0 then
 (if x0.Num=0 then
 φ ((x0.Str.toList == ((⟨#[]⟩:ByteArray)).toList))
 else
 φ false)
 else
 (if x0.Kind=1 then
 φ ((x0.Str.toList == ((⟨#[]⟩:ByteArray)).toList))
 else
 (if x0.Kind=2 then
 (if x0.Num=0 then
 φ ((decide ((bsize x0.Str)≤200)))
 else
 φ false)
 else
 (if x0.Kind=3 then
 (if 1≤x0.Num then
 φ ((x0.Str.toList == ((⟨#[]⟩:ByteArray)).toList))
 else
 φ false)
 else
 φ false))))):∃ r,φ r∧C x0 r:=
 mEnt (fd:=Tryz.f80) (body:=B) (V:=W) (res:=res) <|
 mCon 12 h beq_t beq_f (fun h=>
 mAsk 3 h beq_t beq_f (fun h=>
 mRet 7 h) fun h=>
 mRet 7 h) fun h=>
 mCon 4 h beq_t beq_f (fun h=>
 mRet 6 h) fun h=>
 mCon 4 h beq_t beq_f (fun h=>
 mAsk 3 h beq_t beq_f (fun h=>
 mRet 8 h) fun h=>
 mRet 8 h) fun h=>
 mCon 4 h beq_t beq_f (fun h=>
 mAsk 3 h dT dF (fun h=>
 mRet 7 h) fun h=>
 mRet 7 h) fun h=>
 mRet 4 h
end value_Valid
end Go.Own
namespace Go.Own
open Go.Proofs D
set_option maxRecDepth 100000
set_option maxHeartbeats 4000000
namespace table_validValues_1
noncomputable def B:Code:=(Tryz.f92.body).getD .skip
def W:List Nat:=[0,1,2]
def res (r:Bool):D×List D:=(.lit (.bool r),[])
def C (x0:api_Value) (r:Bool):Prop:=Ret env 92 [.agg [.lit (.int .i64 x0.Kind),.lit (.int .i64 x0.Num),.lit (.string x0.Str)]] (res r).1 (res r).2
theorem enter (x0:api_Value) (φ:Bool→Prop) (h :
 ∃ r1:Bool,value_Valid.C x0 r1 ∧
 φ ((not r1))):∃ r,φ r∧C x0 r:=
 mEnt (fd:=Tryz.f92) (body:=B) (V:=W) (res:=res) <|
 mCal 6 h (fun _ h=>h) fun r1 _ h=>
 mRet 3 h
end table_validValues_1
end Go.Own
namespace Go.Own
open Go.Proofs D
set_option maxRecDepth 100000
set_option maxHeartbeats 4000000
namespace slices_IndexFunc_sapi_Value_api_Value_table_validValues_1
noncomputable def B:Code:=(Tryz.f103.body).getD .skip
def W:List Nat:=[0,1,4,5,7,8,9,16]
def res (r:Int):D×List D:=(.lit (.int .i64 r),[])
def C (x0:List api_Value) (r:Int):Prop:=Ret env 103 [.sl (x0.map enc_api_Value),.fn 92 []] (res r).1 (res r).2
def L1 (x0:List api_Value) (z0:Int) (φ:Int→Prop):Prop:=Pt env 103 W B [1,0,1,0] [(0,.sl (x0.map enc_api_Value)),(1,.fn 92 []),(7,.lit (.int .i64 ((x0.length:Int)))),(8,.lit (.int .i64 z0))] (Lv env 103 Tryz.f103 2 res φ)
theorem L1_step (x0:List api_Value) (z0:Int) (φ:Int→Prop) (h :
 (if z0<(x0.length:Int) then
 ∃ a1,lget x0 z0=some a1 ∧
 ∃ r3:Bool,table_validValues_1.C a1 r3 ∧
 (if r3=true then
 φ z0
 else
 slices_IndexFunc_sapi_Value_api_Value_table_validValues_1.L1 x0 ((IntKind.wrap .i64 (z0+1))) φ)
 else
 φ ((-1)))):L1 x0 z0 φ:=
 mIn <|
 mAsk 2 h dT dF (fun h=>
 mIx 11 enc_api_Value h fun a1 h2 h=>
 mCalB 1 h (fun _ h=>h) (fun _ h=>
 mRet 6 h) fun _ h=>
 mFin 7 h) fun h=>
 mRet 6 h
theorem enter (x0:List api_Value) (φ:Int→Prop) (h :
 slices_IndexFunc_sapi_Value_api_Value_table_validValues_1.L1 x0 0 φ):∃ r,φ r∧C x0 r:=
 mEnt (fd:=Tryz.f103) (body:=B) (V:=W) (res:=res) <|
 mLen 5 enc_api_Value x0 <|
 mFin 2 h
end slices_IndexFunc_sapi_Value_api_Value_table_validValues_1
end Go.Own
namespace Go.Own
open Go.Proofs D
set_option maxRecDepth 100000
set_option maxHeartbeats 4000000
namespace slices_ContainsFunc_sapi_Value_api_Value_table_validValues_1
noncomputable def B:Code:=(Tryz.f91.body).getD .skip
def W:List Nat:=[0,1,4]
def res (r:Bool):D×List D:=(.lit (.bool r),[])
def C (x0:List api_Value) (r:Bool):Prop:=Ret env 91 [.sl (x0.map enc_api_Value),.fn 92 []] (res r).1 (res r).2
theorem enter (x0:List api_Value) (φ:Bool→Prop) (h :
 ∃ r1:Int,slices_IndexFunc_sapi_Value_api_Value_table_validValues_1.C x0 r1 ∧
 φ ((decide (0≤r1)))):∃ r,φ r∧C x0 r:=
 mEnt (fd:=Tryz.f91) (body:=B) (V:=W) (res:=res) <|
 mCal 6 h (fun _ h=>h) fun r1 _ h=>
 mRet 3 h
end slices_ContainsFunc_sapi_Value_api_Value_table_validValues_1
end Go.Own
namespace Go.Own
open Go.Proofs D
set_option maxRecDepth 100000
set_option maxHeartbeats 4000000
namespace table_validValues
noncomputable def B:Code:=(Tryz.f74.body).getD .skip
def W:List Nat:=[0,2]
def res (r:Bool):D×List D:=(.lit (.bool r),[])
def C (x0:List api_Value) (r:Bool):Prop:=Ret env 74 [.sl (x0.map enc_api_Value)] (res r).1 (res r).2
theorem enter (x0:List api_Value) (φ:Bool→Prop) (h :
 ∃ r1:Bool,slices_ContainsFunc_sapi_Value_api_Value_table_validValues_1.C x0 r1 ∧
 φ ((not r1))):∃ r,φ r∧C x0 r:=
 mEnt (fd:=Tryz.f74) (body:=B) (V:=W) (res:=res) <|
 mCal 5 h (fun _ h=>h) fun r1 _ h=>
 mRet 3 h
end table_validValues
end Go.Own
namespace Go.Own
open Go.Proofs D
set_option maxRecDepth 100000
set_option maxHeartbeats 4000000
namespace table_Valid
noncomputable def B:Code:=(Tryz.f47.body).getD .skip
def W:List Nat:=[0,1,2,3,4,5,7,11,21,23,24,25,26,40,43,44,45,46,49,54,62]
def res (r:Int):D×List D:=(.lit (.int .i64 r),[])
def C (x0:api_Table) (r:Int):Prop:=Ret env 47 [.agg [.lit (.string x0.Name),.sl (x0.Attrs.map eS),.sl (x0.Rows.map enc_api_Row)]] (res r).1 (res r).2
def L1 (x0:api_Table) (z0:Int) (φ:Int→Prop):Prop:=Pt env 47 W B [1,1,1,0,1,0] [(0,.agg [.lit (.string x0.Name),.sl (x0.Attrs.map eS),.sl (x0.Rows.map enc_api_Row)]),(1,.box [.lit (.string x0.Name),.sl (x0.Attrs.map eS),.sl (x0.Rows.map enc_api_Row)]),(23,.sl (x0.Attrs.map eS)),(24,.lit (.int .i64 ((x0.Attrs.length:Int)))),(25,.lit (.int .i64 z0))] (Lv env 47 Tryz.f47 1 res φ)
def L2 (x0:api_Table) (z0 z1:Int) (φ:Int→Prop):Prop:=Pt env 47 W B [1,1,1,1,1,0,1,0] [(0,.agg [.lit (.string x0.Name),.sl (x0.Attrs.map eS),.sl (x0.Rows.map enc_api_Row)]),(1,.box [.lit (.string x0.Name),.sl (x0.Attrs.map eS),.sl (x0.Rows.map enc_api_Row)]),(5,.lit (.int .i64 z0)),(43,.sl (x0.Rows.map enc_api_Row)),(44,.lit (.int .i64 ((x0.Rows.length:Int)))),(45,.lit (.int .i64 z1))] (Lv env 47 Tryz.f47 1 res φ)
theorem L1_step (x0:api_Table) (z0:Int) (φ:Int→Prop) (h :
 (if z0<(x0.Attrs.length:Int) then
 ∃ a2,lget x0.Attrs z0=some a2 ∧
 ∃ r4:Bool,table_isName.C a2 r4 ∧
 (if r4=true then
 0≤z0 ∧
 (0≤z0.toNat∧z0.toNat≤x0.Attrs.length) ∧
 ∃ r7:Bool,slices_Contains_sstring_string.C ((List.take (z0.toNat-0) x0.Attrs)) a2 r7 ∧
 (if r7=true then
 φ 1
 else
 table_Valid.L1 x0 ((IntKind.wrap .i64 (z0+1))) φ)
 else
 φ 1)
 else
 table_Valid.L2 x0 0 0 φ)):L1 x0 z0 φ:=
 mIn <|
 mAsk 2 h dT dF (fun h=>
 mIx 5 eS h fun a2 h3 h=>
 mCalB 6 h (fun _ h=>h) (fun _ h=>
 h.elim fun h5 h=>
 h.elim fun h6 h=>
 mVl 5 (val_slice_sl (t:=22) (x:=(.tmp 35)) (lo:=none) (hi:=(some (.tmp 36))) (lo':=none) (hi':=some (z0).toNat) (e:=eS) (l:=x0.Attrs) (et:=9) (k:=1) (by kernel_rfl) (by kernel_rfl) optNat_none (optNat_some (i:=z0) (q:=.i64) (by kernel_rfl) h5) (by kernel_rfl) (by kernel_rfl) (fun _=>rfl) (by kernel_rfl) h6.1 h6.2) <|
 mCalB 1 h (fun _ h=>h) (fun _ h=>
 mRet 6 h) fun _ h=>
 mFin 8 h) fun _ h=>
 mRet 14 h) fun h=>
 mLen 9 enc_api_Row x0.Rows <|
 mFin 2 h
theorem L2_step (x0:api_Table) (z0 z1:Int) (φ:Int→Prop) (h :
 (if z1<(x0.Rows.length:Int) then
 ∃ a8,lget x0.Rows z1=some a8 ∧
 (if a8.ID≤z0 then
 φ 1
 else
 (if (a8.Values.length:Int)=(x0.Attrs.length:Int) then
 ∃ r10:Bool,table_validValues.C a8.Values r10 ∧
 (if r10=true then
 table_Valid.L2 x0 a8.ID ((IntKind.wrap .i64 (z1+1))) φ
 else
 φ 1)
 else
 φ 6))
 else
 φ 0)):L2 x0 z0 z1 φ:=
 mIn <|
 mAsk 2 h dT dF (fun h=>
 mIx 4 enc_api_Row h fun a8 h9 h=>
 mCon 11 h dT dF (fun h=>
 mRet 3 h) fun h=>
 mLen 3 enc_api_Value a8.Values <|
 mLen 2 eS x0.Attrs <|
 mConN 3 h bne_t bne_f (fun h=>
 mRet 3 h) fun h=>
 mCal 3 h (fun _ h=>h) fun r10 _ h=>
 mConN 3 h (fun h=>fls (not_t h)) (fun h=>id (not_f h)) (fun h=>
 mRet 3 h) fun h=>
 mFin 10 h) fun h=>
 mRet 6 h
theorem enter (x0:api_Table) (φ:Int→Prop) (h :
 ∃ r1:Bool,table_isName.C x0.Name r1 ∧
 (if r1=true then
 (if 16<(x0.Attrs.length:Int) then
 φ 3
 else
 (if 1000<(x0.Rows.length:Int) then
 φ 3
 else
 table_Valid.L1 x0 0 φ))
 else
 φ 1)):∃ r,φ r∧C x0 r:=
 mEnt (fd:=Tryz.f47) (body:=B) (V:=W) (res:=res) <|
 mCalB 7 h (fun _ h=>h) (fun _ h=>
 mLen 7 eS x0.Attrs <|
 mAsk 0 h dT dF (fun h=>
 mRet 11 h) fun h=>
 mLen 3 enc_api_Row x0.Rows <|
 mAsk 0 h dT dF (fun h=>
 mRet 6 h) fun h=>
 mLen 7 eS x0.Attrs <|
 mFin 2 h) fun _ h=>
 mRet 6 h
end table_Valid
end Go.Own
namespace Go.Own
open Go.Proofs D
set_option maxRecDepth 100000
set_option maxHeartbeats 4000000
namespace drossref01_Valid
noncomputable def B:Code:=(Tryz.f64.body).getD .skip
def W:List Nat:=[0,1,2,4,5,15,20]
def res (r:Bool):D×List D:=(.lit (.bool r),[])
def C (x0:api_Value) (r:Bool):Prop:=Ret env 64 [.agg [.lit (.int .i64 x0.Kind),.lit (.int .i64 x0.Num),.lit (.string x0.Str)]] (res r).1 (res r).2
theorem enter (x0:api_Value) (φ:Bool→Prop) (h :
 (if x0.Kind=0 then
 (if x0.Num=0 then
 φ ((x0.Str.toList == ((⟨#[]⟩:ByteArray)).toList))
 else
 φ false)
 else
 (if x0.Kind=1 then
 φ ((x0.Str.toList == ((⟨#[]⟩:ByteArray)).toList))
 else
 (if x0.Kind=2 then
 (if x0.Num=0 then
 φ ((decide ((bsize x0.Str)≤200)))
 else
 φ false)
 else
 (if x0.Kind=3 then
 (if 1≤x0.Num then
 φ ((x0.Str.toList == ((⟨#[]⟩:ByteArray)).toList))
 else
 φ false)
 else
 φ false))))):∃ r,φ r∧C x0 r:=
 mEnt (fd:=Tryz.f64) (body:=B) (V:=W) (res:=res) <|
 mCon 12 h beq_t beq_f (fun h=>
 mAsk 3 h beq_t beq_f (fun h=>
 mRet 7 h) fun h=>
 mRet 7 h) fun h=>
 mCon 4 h beq_t beq_f (fun h=>
 mRet 6 h) fun h=>
 mCon 4 h beq_t beq_f (fun h=>
 mAsk 3 h beq_t beq_f (fun h=>
 mRet 8 h) fun h=>
 mRet 8 h) fun h=>
 mAsk 4 h beq_t beq_f (fun h=>
 mAsk 3 h dT dF (fun h=>
 mRet 8 h) fun h=>
 mRet 8 h) fun h=>
 mRet 12 h
end drossref01_Valid
end Go.Own
namespace Go.Own
open Go.Proofs D
set_option maxRecDepth 100000
set_option maxHeartbeats 4000000
namespace drossref01_Valids
noncomputable def B:Code:=(Tryz.f86.body).getD .skip
def W:List Nat:=[0,2,3,7,15]
def res (r:Bool):D×List D:=(.lit (.bool r),[])
def C (x0:List api_Value) (r:Bool):Prop:=Ret env 86 [.sl (x0.map enc_api_Value)] (res r).1 (res r).2
def L1 (x0:List api_Value) (z0:Int) (φ:Bool→Prop):Prop:=Pt env 86 W B [1,0,1,0] [(0,.sl (x0.map enc_api_Value)),(3,.lit (.int .i64 z0))] (Lv env 86 Tryz.f86 1 res φ)
theorem L1_step (x0:List api_Value) (z0:Int) (φ:Bool→Prop) (h :
 (if z0<(x0.length:Int) then
 ∃ a1,lget x0 z0=some a1 ∧
 ∃ r3:Bool,drossref01_Valid.C a1 r3 ∧
 (if r3=true then
 drossref01_Valids.L1 x0 ((IntKind.wrap .i64 (z0+1))) φ
 else
 φ false)
 else
 φ true)):L1 x0 z0 φ:=
 mIn <|
 mLen 4 enc_api_Value x0 <|
 mAsk 0 h dT dF (fun h=>
 mIx 6 enc_api_Value h fun a1 h2 h=>
 mCalB 1 h (fun _ h=>h) (fun _ h=>
 mFin 9 h) fun _ h=>
 mRet 6 h) fun h=>
 mRet 6 h
theorem enter (x0:List api_Value) (φ:Bool→Prop) (h :
 drossref01_Valids.L1 x0 0 φ):∃ r,φ r∧C x0 r:=
 mEnt (fd:=Tryz.f86) (body:=B) (V:=W) (res:=res) <|
 mFin 6 h
end drossref01_Valids
end Go.Own
namespace Go.Own
open Go.Proofs D
set_option maxRecDepth 100000
set_option maxHeartbeats 4000000
namespace drossref03_letter
noncomputable def B:Code:=(Tryz.f100.body).getD .skip
def W:List Nat:=[0,2]
def res (r:Bool):D×List D:=(.lit (.bool r),[])
def C (x0:Int) (r:Bool):Prop:=Ret env 100 [.lit (.int .u8 x0)] (res r).1 (res r).2
theorem enter (x0:Int) (φ:Bool→Prop) (h :
 (if 97≤x0 then
 (if x0≤122 then
 φ true
 else
 (if 65≤x0 then
 (if x0≤90 then
 φ true
 else
 φ ((x0 == 95)))
 else
 φ ((x0 == 95))))
 else
 (if 65≤x0 then
 (if x0≤90 then
 φ true
 else
 φ ((x0 == 95)))
 else
 φ ((x0 == 95))))):∃ r,φ r∧C x0 r:=
 mEnt (fd:=Tryz.f100) (body:=B) (V:=W) (res:=res) <|
 mAsk 5 h dT dF (fun h=>
 mAsk 2 h dT dF (fun h=>
 mRet 15 h) fun h=>
 mAsk 3 h dT dF (fun h=>
 mAsk 2 h dT dF (fun h=>
 mRet 8 h) fun h=>
 mRet 8 h) fun h=>
 mRet 11 h) fun h=>
 mAsk 6 h dT dF (fun h=>
 mAsk 2 h dT dF (fun h=>
 mRet 8 h) fun h=>
 mRet 8 h) fun h=>
 mRet 11 h
end drossref03_letter
end Go.Own
namespace Go.Own
open Go.Proofs D
set_option maxRecDepth 100000
set_option maxHeartbeats 4000000
namespace drossref03_Name
noncomputable def B:Code:=(Tryz.f84.body).getD .skip
def W:List Nat:=[0,2,3,21,25,44]
def res (r:Bool):D×List D:=(.lit (.bool r),[])
def C (x0:ByteArray) (r:Bool):Prop:=Ret env 84 [.lit (.string x0)] (res r).1 (res r).2
def L1 (x0:ByteArray) (z0:Int) (φ:Bool→Prop):Prop:=Pt env 84 W B [1,1,0,1,0] [(0,.lit (.string x0)),(3,.lit (.int .i64 z0))] (Lv env 84 Tryz.f84 1 res φ)
def L2 (x0:ByteArray) (z0:Int) (φ:Bool→Prop):Prop:=Pt env 84 W B [1,1,0,1,0,0,1,1] [(0,.lit (.string x0)),(3,.lit (.int .i64 z0))] (Lv env 84 Tryz.f84 1 res φ)
theorem L1_step (x0:ByteArray) (z0:Int) (φ:Bool→Prop) (h :
 (if z0<(bsize x0) then
 ∃ b5,((0:Int)≤z0∧x0[(z0).toNat]? = some b5) ∧
 ∃ r8:Bool,drossref03_letter.C ((u8i b5)) r8 ∧
 (if r8=true then
 drossref03_Name.L2 x0 z0 φ
 else
 ∃ b9,((0:Int)≤z0∧x0[(z0).toNat]? = some b9) ∧
 (if (u8i b9)<48 then
 φ false
 else
 ∃ b12,((0:Int)≤z0∧x0[(z0).toNat]? = some b12) ∧
 (if 57<(u8i b12) then
 φ false
 else
 drossref03_Name.L2 x0 z0 φ)))
 else
 φ true)):L1 x0 z0 φ:=
 mIn <|
 mAsk 5 h dT dF (fun h=>
 mSt 6 h fun b5 h=>
 mCalB 0 h (fun _ h=>h) (fun _ h=>
 mFin 16 h) fun _ h=>
 mSt 4 h fun b9 h=>
 mAsk 0 h dT dF (fun h=>
 mRet 12 h) fun h=>
 mSt 3 h fun b12 h=>
 mAsk 0 h dT dF (fun h=>
 mRet 7 h) fun h=>
 mFin 5 h) fun h=>
 mRet 6 h
theorem L2_step (x0:ByteArray) (z0:Int) (φ:Bool→Prop) (h :
 drossref03_Name.L1 x0 ((IntKind.wrap .i64 (z0+1))) φ):L2 x0 z0 φ:=
 mIn <|
 mFin 5 h
theorem enter (x0:ByteArray) (φ:Bool→Prop) (h :
 (if (bsize x0)=0 then
 φ false
 else
 (if 24<(bsize x0) then
 φ false
 else
 ∃ b1,((0:Int)≤0∧x0[((0:Int)).toNat]? = some b1) ∧
 ∃ r4:Bool,drossref03_letter.C ((u8i b1)) r4 ∧
 (if r4=true then
 (if x0.toList=((⟨#[110,117,108,108]⟩:ByteArray)).toList then
 φ false
 else
 drossref03_Name.L1 x0 0 φ)
 else
 φ false)))):∃ r,φ r∧C x0 r:=
 mEnt (fd:=Tryz.f84) (body:=B) (V:=W) (res:=res) <|
 mAsk 6 h beq_t beq_f (fun h=>
 mRet 20 h) fun h=>
 mAsk 3 h dT dF (fun h=>
 mRet 16 h) fun h=>
 mSt 3 h fun b1 h=>
 mCalB 0 h (fun _ h=>h) (fun _ h=>
 mAsk 4 h seq_t seq_f (fun h=>
 mRet 6 h) fun h=>
 mFin 7 h) fun _ h=>
 mRet 11 h
end drossref03_Name
end Go.Own
namespace Go.Own
open Go.Proofs D
set_option maxRecDepth 100000
set_option maxHeartbeats 4000000
namespace drossref03_Attr
noncomputable def B:Code:=(Tryz.f101.body).getD .skip
def W:List Nat:=[0,1,4,5,9,17]
def res (r:Int):D×List D:=(.lit (.int .i64 r),[])
def C (x0:List ByteArray) (x1:ByteArray) (r:Int):Prop:=Ret env 101 [.sl (x0.map eS),.lit (.string x1)] (res r).1 (res r).2
def L1 (x0:List ByteArray) (x1:ByteArray) (z0:Int) (φ:Int→Prop):Prop:=Pt env 101 W B [1,0,1,0] [(0,.sl (x0.map eS)),(1,.lit (.string x1)),(5,.lit (.int .i64 z0))] (Lv env 101 Tryz.f101 2 res φ)
theorem L1_step (x0:List ByteArray) (x1:ByteArray) (z0:Int) (φ:Int→Prop) (h :
 (if z0<(x0.length:Int) then
 ∃ a1,lget x0 z0=some a1 ∧
 (if a1.toList=x1.toList then
 φ z0
 else
 drossref03_Attr.L1 x0 x1 ((IntKind.wrap .i64 (z0+1))) φ)
 else
 φ ((-1)))):L1 x0 x1 z0 φ:=
 mIn <|
 mLen 4 eS x0 <|
 mAsk 0 h dT dF (fun h=>
 mIx 6 eS h fun a1 h2 h=>
 mAsk 2 h seq_t seq_f (fun h=>
 mRet 6 h) fun h=>
 mFin 8 h) fun h=>
 mRet 6 h
theorem enter (x0:List ByteArray) (x1:ByteArray) (φ:Int→Prop) (h :
 drossref03_Attr.L1 x0 x1 0 φ):∃ r,φ r∧C x0 x1 r:=
 mEnt (fd:=Tryz.f101) (body:=B) (V:=W) (res:=res) <|
 mFin 6 h
end drossref03_Attr
end Go.Own
namespace Go.Own
open Go.Proofs D
set_option maxRecDepth 100000
set_option maxHeartbeats 4000000
namespace drossref03_Names
noncomputable def B:Code:=(Tryz.f85.body).getD .skip
def W:List Nat:=[0,2,3,7,26]
def res (r:Bool):D×List D:=(.lit (.bool r),[])
def C (x0:List ByteArray) (r:Bool):Prop:=Ret env 85 [.sl (x0.map eS)] (res r).1 (res r).2
def L1 (x0:List ByteArray) (z0:Int) (φ:Bool→Prop):Prop:=Pt env 85 W B [1,0,1,0] [(0,.sl (x0.map eS)),(3,.lit (.int .i64 z0))] (Lv env 85 Tryz.f85 1 res φ)
theorem L1_step (x0:List ByteArray) (z0:Int) (φ:Bool→Prop) (h :
 (if z0<(x0.length:Int) then
 ∃ a1,lget x0 z0=some a1 ∧
 ∃ r3:Bool,drossref03_Name.C a1 r3 ∧
 (if r3=true then
 0≤z0 ∧
 (0≤z0.toNat∧z0.toNat≤x0.length) ∧
 ∃ r6:Int,drossref03_Attr.C ((List.take (z0.toNat-0) x0)) a1 r6 ∧
 (if 0≤r6 then
 φ false
 else
 drossref03_Names.L1 x0 ((IntKind.wrap .i64 (z0+1))) φ)
 else
 φ false)
 else
 φ true)):L1 x0 z0 φ:=
 mIn <|
 mLen 4 eS x0 <|
 mAsk 0 h dT dF (fun h=>
 mIx 6 eS h fun a1 h2 h=>
 mCalB 1 h (fun _ h=>h) (fun _ h=>
 h.elim fun h4 h=>
 h.elim fun h5 h=>
 mVl 4 (val_slice_sl (t:=22) (x:=(.tmp 17)) (lo:=none) (hi:=(some (.tmp 18))) (lo':=none) (hi':=some (z0).toNat) (e:=eS) (l:=x0) (et:=9) (k:=1) (by kernel_rfl) (by kernel_rfl) optNat_none (optNat_some (i:=z0) (q:=.i64) (by kernel_rfl) h4) (by kernel_rfl) (by kernel_rfl) (fun _=>rfl) (by kernel_rfl) h5.1 h5.2) <|
 mIxf 2 eS h2 <|
 mCal 1 h (fun _ h=>h) fun r6 _ h=>
 mAsk 0 h dT dF (fun h=>
 mRet 6 h) fun h=>
 mFin 9 h) fun _ h=>
 mRet 17 h) fun h=>
 mRet 6 h
theorem enter (x0:List ByteArray) (φ:Bool→Prop) (h :
 drossref03_Names.L1 x0 0 φ):∃ r,φ r∧C x0 r:=
 mEnt (fd:=Tryz.f85) (body:=B) (V:=W) (res:=res) <|
 mFin 6 h
end drossref03_Names
end Go.Own
namespace Go.Own
open Go.Proofs D
set_option maxRecDepth 100000
set_option maxHeartbeats 4000000
namespace drossref03_Valid
noncomputable def B:Code:=(Tryz.f62.body).getD .skip
def W:List Nat:=[0,1,2,3,4,5,9,19,23,28,39,48,52]
def res (r:Int):D×List D:=(.lit (.int .i64 r),[])
def C (x0:api_Table) (r:Int):Prop:=Ret env 62 [.agg [.lit (.string x0.Name),.sl (x0.Attrs.map eS),.sl (x0.Rows.map enc_api_Row)]] (res r).1 (res r).2
def L1 (x0:api_Table) (z0 z1:Int) (φ:Int→Prop):Prop:=Pt env 62 W B [1,1,1,1,1,0,1,0] [(0,.agg [.lit (.string x0.Name),.sl (x0.Attrs.map eS),.sl (x0.Rows.map enc_api_Row)]),(1,.box [.lit (.string x0.Name),.sl (x0.Attrs.map eS),.sl (x0.Rows.map enc_api_Row)]),(3,.lit (.int .i64 z0)),(4,.lit (.int .i64 z1))] (Lv env 62 Tryz.f62 1 res φ)
theorem L1_step (x0:api_Table) (z0 z1:Int) (φ:Int→Prop) (h :
 (if z1<(x0.Rows.length:Int) then
 ∃ a3,lget x0.Rows z1=some a3 ∧
 (if a3.ID≤z0 then
 φ 1
 else
 (if (a3.Values.length:Int)=(x0.Attrs.length:Int) then
 ∃ r5:Bool,drossref01_Valids.C a3.Values r5 ∧
 (if r5=true then
 drossref03_Valid.L1 x0 a3.ID ((IntKind.wrap .i64 (z1+1))) φ
 else
 φ 1)
 else
 φ 6))
 else
 φ 0)):L1 x0 z0 z1 φ:=
 mIn <|
 mLen 5 enc_api_Row x0.Rows <|
 mAsk 0 h dT dF (fun h=>
 mIx 7 enc_api_Row h fun a3 h4 h=>
 mAsk 8 h dT dF (fun h=>
 mRet 5 h) fun h=>
 mLen 11 enc_api_Value a3.Values <|
 mLen 2 eS x0.Attrs <|
 mAskN 0 h bne_t bne_f (fun h=>
 mRet 5 h) fun h=>
 mCalB 6 h (fun _ h=>h) (fun _ h=>
 mFin 9 h) fun _ h=>
 mRet 6 h) fun h=>
 mRet 6 h
theorem enter (x0:api_Table) (φ:Int→Prop) (h :
 ∃ r1:Bool,drossref03_Name.C x0.Name r1 ∧
 (if r1=true then
 (if 16<(x0.Attrs.length:Int) then
 φ 3
 else
 (if 1000<(x0.Rows.length:Int) then
 φ 3
 else
 ∃ r2:Bool,drossref03_Names.C x0.Attrs r2 ∧
 (if r2=true then
 drossref03_Valid.L1 x0 0 0 φ
 else
 φ 1)))
 else
 φ 1)):∃ r,φ r∧C x0 r:=
 mEnt (fd:=Tryz.f62) (body:=B) (V:=W) (res:=res) <|
 mCalB 7 h (fun _ h=>h) (fun _ h=>
 mLen 7 eS x0.Attrs <|
 mAsk 0 h dT dF (fun h=>
 mRet 11 h) fun h=>
 mLen 3 enc_api_Row x0.Rows <|
 mAsk 0 h dT dF (fun h=>
 mRet 6 h) fun h=>
 mCalB 7 h (fun _ h=>h) (fun _ h=>
 mFin 10 h) fun _ h=>
 mRet 6 h) fun _ h=>
 mRet 6 h
end drossref03_Valid
end Go.Own
namespace Go.Own
open Go.Proofs D
set_option maxRecDepth 100000
set_option maxHeartbeats 4000000
namespace drossref02_Full
noncomputable def B:Code:=(Tryz.f63.body).getD .skip
def W:List Nat:=[0,2,3,4,11]
def res (r:Int):D×List D:=(.lit (.int .u32 r),[])
def C (x0 r:Int):Prop:=Ret env 63 [.lit (.int .i64 x0)] (res r).1 (res r).2
def L1 (x0 z0 z1:Int) (φ:Int→Prop):Prop:=Pt env 63 W B [1,1,0,1,0] [(0,.lit (.int .i64 x0)),(3,.lit (.int .u32 z0)),(4,.lit (.int .i64 z1))] (Lv env 63 Tryz.f63 1 res φ)
theorem L1_step (x0 z0 z1:Int) (φ:Int→Prop) (h :
 (if z1<x0 then
 (if z1<32 then
 0≤z1 ∧
 drossref02_Full.L1 x0 ((bOr .u32 z0 (shlw .u32 1 z1))) ((IntKind.wrap .i64 (z1+1))) φ
 else
 φ z0)
 else
 φ z0)):L1 x0 z0 z1 φ:=
 mIn <|
 mAsk 4 h dT dF (fun h=>
 mAsk 2 h dT dF (fun h=>
 h.elim fun h1 h=>
 mBi 7 (bin_shl (t:=27) (q:=.u32) (q':=.i64) (i1:=1) h1) <|
 mFin 8 h) fun h=>
 mRet 8 h) fun h=>
 mRet 11 h
theorem enter (x0:Int) (φ:Int→Prop) (h :
 drossref02_Full.L1 x0 0 0 φ):∃ r,φ r∧C x0 r:=
 mEnt (fd:=Tryz.f63) (body:=B) (V:=W) (res:=res) <|
 mFin 9 h
end drossref02_Full
end Go.Own
namespace Go.Own
open Go.Proofs D
set_option maxRecDepth 100000
set_option maxHeartbeats 4000000
namespace drossref02_Has
noncomputable def B:Code:=(Tryz.f102.body).getD .skip
def W:List Nat:=[0,1,4]
def res (r:Bool):D×List D:=(.lit (.bool r),[])
def C (x0 x1:Int) (r:Bool):Prop:=Ret env 102 [.lit (.int .u32 x0),.lit (.int .i64 x1)] (res r).1 (res r).2
theorem enter (x0 x1:Int) (φ:Bool→Prop) (h :
 (if 0≤x1 then
 (if x1<32 then
 0≤x1 ∧
 φ (((bAnd .u32 (shrw .u32 x0 x1) 1) == 1))
 else
 φ false)
 else
 φ false)):∃ r,φ r∧C x0 x1 r:=
 mEnt (fd:=Tryz.f102) (body:=B) (V:=W) (res:=res) <|
 mAsk 5 h dT dF (fun h=>
 mAsk 2 h dT dF (fun h=>
 h.elim fun h1 h=>
 mBi 4 (bin_shr (t:=27) (q:=.u32) (q':=.i64) (i1:=x0) h1) <|
 mRet 5 h) fun h=>
 mRet 10 h) fun h=>
 mRet 13 h
end drossref02_Has
end Go.Own
namespace Go.Own
open Go.Proofs D
set_option maxRecDepth 100000
set_option maxHeartbeats 4000000
namespace drossref01_sign
noncomputable def B:Code:=(Tryz.f68.body).getD .skip
def W:List Nat:=[0,1,4,7,10]
def res (r:Int):D×List D:=(.lit (.int .i64 r),[])
def C (x0 x1 r:Int):Prop:=Ret env 68 [.lit (.int .i64 x0),.lit (.int .i64 x1)] (res r).1 (res r).2
theorem enter (x0 x1:Int) (φ:Int→Prop) (h :
 (if x0<x1 then
 φ ((-1))
 else
 (if x1<x0 then
 φ 1
 else
 φ 0))):∃ r,φ r∧C x0 x1 r:=
 mEnt (fd:=Tryz.f68) (body:=B) (V:=W) (res:=res) <|
 mAsk 6 h dT dF (fun h=>
 mRet 5 h) fun h=>
 mAsk 6 h dT dF (fun h=>
 mRet 5 h) fun h=>
 mRet 6 h
end drossref01_sign
end Go.Own
namespace Go.Own
open Go.Proofs D
set_option maxRecDepth 100000
set_option maxHeartbeats 4000000
namespace drossref01_strings
noncomputable def B:Code:=(Tryz.f69.body).getD .skip
def W:List Nat:=[0,1,4,5,15,24]
def res (r:Int):D×List D:=(.lit (.int .i64 r),[])
def C (x0 x1:ByteArray) (r:Int):Prop:=Ret env 69 [.lit (.string x0),.lit (.string x1)] (res r).1 (res r).2
def L1 (x0 x1:ByteArray) (z0:Int) (φ:Int→Prop):Prop:=Pt env 69 W B [1,0,1,0] [(0,.lit (.string x0)),(1,.lit (.string x1)),(5,.lit (.int .i64 z0))] (Lv env 69 Tryz.f69 2 res φ)
def L2 (x0 x1:ByteArray) (φ:Int→Prop):Prop:=Pt env 69 W B [1,1,0] [(0,.lit (.string x0)),(1,.lit (.string x1))] (Lv env 69 Tryz.f69 2 res φ)
theorem L1_step (x0 x1:ByteArray) (z0:Int) (φ:Int→Prop) (h :
 (if z0<(bsize x0) then
 (if z0<(bsize x1) then
 ∃ b1,((0:Int)≤z0∧x0[(z0).toNat]? = some b1) ∧
 ∃ b4,((0:Int)≤z0∧x1[(z0).toNat]? = some b4) ∧
 (if (u8i b1)=(u8i b4) then
 drossref01_strings.L1 x0 x1 ((IntKind.wrap .i64 (z0+1))) φ
 else
 ∃ b7,((0:Int)≤z0∧x0[(z0).toNat]? = some b7) ∧
 ∃ b10,((0:Int)≤z0∧x1[(z0).toNat]? = some b10) ∧
 ∃ r13:Int,drossref01_sign.C ((IntKind.wrap .i64 (u8i b7))) ((IntKind.wrap .i64 (u8i b10))) r13 ∧
 φ r13)
 else
 drossref01_strings.L2 x0 x1 φ)
 else
 drossref01_strings.L2 x0 x1 φ)):L1 x0 x1 z0 φ:=
 mIn <|
 mAsk 5 h dT dF (fun h=>
 mAsk 4 h dT dF (fun h=>
 mSt 7 h fun b1 h=>
 mSt 2 h fun b4 h=>
 mAskN 0 h bne_t bne_f (fun h=>
 mSt 5 h fun b7 h=>
 mSt 3 h fun b10 h=>
 mCal 1 h (fun _ h=>h) fun r13 _ h=>
 mRet 2 h) fun h=>
 mFin 8 h) fun h=>
 mFin 4 h) fun h=>
 mFin 9 h
theorem L2_step (x0 x1:ByteArray) (φ:Int→Prop) (h :
 ∃ r14:Int,drossref01_sign.C ((bsize x0)) ((bsize x1)) r14 ∧
 φ r14):L2 x0 x1 φ:=
 mIn <|
 mCal 5 h (fun _ h=>h) fun r14 _ h=>
 mRet 2 h
theorem enter (x0 x1:ByteArray) (φ:Int→Prop) (h :
 drossref01_strings.L1 x0 x1 0 φ):∃ r,φ r∧C x0 x1 r:=
 mEnt (fd:=Tryz.f69) (body:=B) (V:=W) (res:=res) <|
 mFin 6 h
end drossref01_strings
end Go.Own
namespace Go.Own
open Go.Proofs D
set_option maxRecDepth 100000
set_option maxHeartbeats 4000000
namespace drossref01_Compare
noncomputable def B:Code:=(Tryz.f42.body).getD .skip
def W:List Nat:=[0,1,2,3,4,5,6,13,21]
def res (r:Int):D×List D:=(.lit (.int .i64 r),[])
def C (x0 x1:api_Value) (r:Int):Prop:=Ret env 42 [.agg [.lit (.int .i64 x0.Kind),.lit (.int .i64 x0.Num),.lit (.string x0.Str)],.agg [.lit (.int .i64 x1.Kind),.lit (.int .i64 x1.Num),.lit (.string x1.Str)]] (res r).1 (res r).2
theorem enter (x0 x1:api_Value) (φ:Int→Prop) (h :
 ∃ r1:Int,drossref01_sign.C x0.Kind x1.Kind r1 ∧
 (if r1=0 then
 ∃ r2:Int,drossref01_sign.C x0.Num x1.Num r2 ∧
 (if r2=0 then
 ∃ r3:Int,drossref01_strings.C x0.Str x1.Str r3 ∧
 φ r3
 else
 φ r2)
 else
 φ r1)):∃ r,φ r∧C x0 x1 r:=
 mEnt (fd:=Tryz.f42) (body:=B) (V:=W) (res:=res) <|
 mCal 10 h (fun _ h=>h) fun r1 _ h=>
 mAskN 4 h bne_t bne_f (fun h=>
 mRet 6 h) fun h=>
 mCal 8 h (fun _ h=>h) fun r2 _ h=>
 mAskN 4 h bne_t bne_f (fun h=>
 mRet 6 h) fun h=>
 mCal 8 h (fun _ h=>h) fun r3 _ h=>
 mRet 2 h
end drossref01_Compare
end Go.Own
namespace Go.Own
open Go.Proofs D
set_option maxRecDepth 100000
set_option maxHeartbeats 4000000
namespace drossref01_Lists
noncomputable def B:Code:=(Tryz.f88.body).getD .skip
def W:List Nat:=[0,1,4,5,6,16,29]
def res (r:Int):D×List D:=(.lit (.int .i64 r),[])
def C (x0 x1:List api_Value) (r:Int):Prop:=Ret env 88 [.sl (x0.map enc_api_Value),.sl (x1.map enc_api_Value)] (res r).1 (res r).2
def L1 (x0 x1:List api_Value) (z0:Int) (φ:Int→Prop):Prop:=Pt env 88 W B [1,0,1,0] [(0,.sl (x0.map enc_api_Value)),(1,.sl (x1.map enc_api_Value)),(5,.lit (.int .i64 z0))] (Lv env 88 Tryz.f88 2 res φ)
def L2 (x0 x1:List api_Value) (φ:Int→Prop):Prop:=Pt env 88 W B [1,1,0] [(0,.sl (x0.map enc_api_Value)),(1,.sl (x1.map enc_api_Value))] (Lv env 88 Tryz.f88 2 res φ)
theorem L1_step (x0 x1:List api_Value) (z0:Int) (φ:Int→Prop) (h :
 (if z0<(x0.length:Int) then
 (if z0<(x1.length:Int) then
 ∃ a1,lget x0 z0=some a1 ∧
 ∃ a3,lget x1 z0=some a3 ∧
 ∃ r5:Int,drossref01_Compare.C a1 a3 r5 ∧
 (if r5=0 then
 drossref01_Lists.L1 x0 x1 ((IntKind.wrap .i64 (z0+1))) φ
 else
 φ r5)
 else
 drossref01_Lists.L2 x0 x1 φ)
 else
 drossref01_Lists.L2 x0 x1 φ)):L1 x0 x1 z0 φ:=
 mIn <|
 mLen 4 enc_api_Value x0 <|
 mAsk 0 h dT dF (fun h=>
 mLen 3 enc_api_Value x1 <|
 mAsk 0 h dT dF (fun h=>
 mIx 7 enc_api_Value h fun a1 h2 h=>
 mIx 3 enc_api_Value h fun a3 h4 h=>
 mCal 1 h (fun _ h=>h) fun r5 _ h=>
 mAskN 4 h bne_t bne_f (fun h=>
 mRet 6 h) fun h=>
 mFin 8 h) fun h=>
 mFin 4 h) fun h=>
 mFin 9 h
theorem L2_step (x0 x1:List api_Value) (φ:Int→Prop) (h :
 ∃ r6:Int,drossref01_sign.C ((x0.length:Int)) ((x1.length:Int)) r6 ∧
 φ r6):L2 x0 x1 φ:=
 mIn <|
 mLen 2 enc_api_Value x0 <|
 mLen 1 enc_api_Value x1 <|
 mCal 0 h (fun _ h=>h) fun r6 _ h=>
 mRet 2 h
theorem enter (x0 x1:List api_Value) (φ:Int→Prop) (h :
 drossref01_Lists.L1 x0 x1 0 φ):∃ r,φ r∧C x0 x1 r:=
 mEnt (fd:=Tryz.f88) (body:=B) (V:=W) (res:=res) <|
 mFin 6 h
end drossref01_Lists
end Go.Own
namespace Go.Own
open Go.Proofs D
set_option maxRecDepth 100000
set_option maxHeartbeats 4000000
namespace drossref01_Same
noncomputable def B:Code:=(Tryz.f67.body).getD .skip
def W:List Nat:=[0,1,4]
def res (r:Bool):D×List D:=(.lit (.bool r),[])
def C (x0 x1:List api_Value) (r:Bool):Prop:=Ret env 67 [.sl (x0.map enc_api_Value),.sl (x1.map enc_api_Value)] (res r).1 (res r).2
theorem enter (x0 x1:List api_Value) (φ:Bool→Prop) (h :
 ∃ r1:Int,drossref01_Lists.C x0 x1 r1 ∧
 φ ((r1 == 0))):∃ r,φ r∧C x0 x1 r:=
 mEnt (fd:=Tryz.f67) (body:=B) (V:=W) (res:=res) <|
 mCal 6 h (fun _ h=>h) fun r1 _ h=>
 mRet 3 h
end drossref01_Same
end Go.Own
namespace Go.Own
open Go.Proofs D
set_option maxRecDepth 100000
set_option maxHeartbeats 4000000
namespace value_number
noncomputable def B:Code:=(Tryz.f93.body).getD .skip
def W:List Nat:=[0,1,4,5,6,11]
def res (r:List Int):D×List D:=(.own (r.map (eI .u8)),[])
def C (x1:Int) (k0_0 r:List Int):Prop:=Ret env 93 [.own (k0_0.map (eI .u8)),.lit (.int .i64 x1)] (res r).1 (res r).2
def L1 (k0_0:List Int) (z0 z1:Int) (φ:List Int→Prop):Prop:=Pt env 93 W B [1,1,0,1,0] [(0,.own (k0_0.map (eI .u8))),(5,.lit (.int .u64 z0)),(6,.lit (.int .i64 z1))] (Lv env 93 Tryz.f93 2 res φ)
theorem L1_step (k0_0:List Int) (z0 z1:Int) (φ:List Int→Prop) (h :
 (if 0≤z1 then
 0≤z1 ∧
 (k0_0.length+1)*1≤140737488355328 ∧
 value_number.L1 ((k0_0++[(IntKind.wrap .u8 (shrw .u64 z0 z1))])) z0 ((IntKind.wrap .i64 (z1-8))) φ
 else
 φ k0_0)):L1 k0_0 z0 z1 φ:=
 mIn <|
 mAsk 3 h dT dF (fun h=>
 h.elim fun h1 h=>
 mBi 7 (bin_shr (t:=160) (q:=.u64) (q':=.i64) (i1:=z0) h1) <|
 mApp 2 (eI .u8) k0_0 ([(IntKind.wrap .u8 (shrw .u64 z0 z1))]) h fun h=>
 mFin 7 h) fun h=>
 mRet 7 h
theorem enter (x1:Int) (k0_0:List Int) (φ:List Int→Prop) (h :
 value_number.L1 k0_0 ((bXor .u64 (IntKind.wrap .u64 x1) 9223372036854775808)) 56 φ):∃ r,φ r∧C x1 k0_0 r:=
 mEnt (fd:=Tryz.f93) (body:=B) (V:=W) (res:=res) <|
 mFin 12 h
end value_number
end Go.Own
namespace Go.Own
open Go.Proofs D
set_option maxRecDepth 100000
set_option maxHeartbeats 4000000
namespace value_Key
noncomputable def B:Code:=(Tryz.f75.body).getD .skip
def W:List Nat:=[0,1,2,3,4,5,8,14,15,22,26,27,28,41]
def res (r:ByteArray×Int):D×List D:=(.tup [.lit (.string r.1),.lit (.int .i64 r.2)],[])
def C (x0:api_Value) (r:ByteArray×Int):Prop:=Ret env 75 [.agg [.lit (.int .i64 x0.Kind),.lit (.int .i64 x0.Num),.lit (.string x0.Str)]] (res r).1 (res r).2
def L2 (x0:api_Value) (z0:Bool) (φ:ByteArray×Int→Prop):Prop:=Pt env 75 W B [1,1,1,0,1,0,1,0] [(0,.agg [.lit (.int .i64 x0.Kind),.lit (.int .i64 x0.Num),.lit (.string x0.Str)]),(1,.box [.lit (.int .i64 x0.Kind),.lit (.int .i64 x0.Num),.lit (.string x0.Str)]),(4,.own (([(IntKind.wrap .u8 x0.Kind)]).map (eI .u8))),(14,.lit (.int .i64 x0.Kind)),(15,.lit (.bool z0))] (Lv env 75 Tryz.f75 1 res φ)
def L3 (x0:api_Value) (φ:ByteArray×Int→Prop):Prop:=Pt env 75 W B [1,1,1,0,1,0,1,1,0] [(0,.agg [.lit (.int .i64 x0.Kind),.lit (.int .i64 x0.Num),.lit (.string x0.Str)]),(1,.box [.lit (.int .i64 x0.Kind),.lit (.int .i64 x0.Num),.lit (.string x0.Str)]),(4,.own (([(IntKind.wrap .u8 x0.Kind)]).map (eI .u8))),(14,.lit (.int .i64 x0.Kind))] (Lv env 75 Tryz.f75 1 res φ)
def L1 (x0:api_Value) (z0:List Int) (z1:Int) (φ:ByteArray×Int→Prop):Prop:=Pt env 75 W B [1,1,1,0,1,0,1,1,1,0,0,1,0] [(0,.agg [.lit (.int .i64 x0.Kind),.lit (.int .i64 x0.Num),.lit (.string x0.Str)]),(1,.box [.lit (.int .i64 x0.Kind),.lit (.int .i64 x0.Num),.lit (.string x0.Str)]),(4,.own (z0.map (eI .u8))),(26,.lit (.int .i64 ((bsize x0.Str)))),(27,.lit (.int .i64 z1))] (Lv env 75 Tryz.f75 1 res φ)
def L4 (x0:api_Value) (z0:List Int) (z1:Int) (φ:ByteArray×Int→Prop):Prop:=Pt env 75 W B [1,1,1,0,1,0,1,1,1,0,0,1,0,0,1,1,1] [(0,.agg [.lit (.int .i64 x0.Kind),.lit (.int .i64 x0.Num),.lit (.string x0.Str)]),(1,.box [.lit (.int .i64 x0.Kind),.lit (.int .i64 x0.Num),.lit (.string x0.Str)]),(4,.own (z0.map (eI .u8))),(26,.lit (.int .i64 ((bsize x0.Str)))),(27,.lit (.int .i64 z1))] (Lv env 75 Tryz.f75 1 res φ)
theorem L2_step (x0:api_Value) (z0:Bool) (φ:ByteArray×Int→Prop) (h :
 ∃ r2:List Int,value_number.C x0.Num ([(IntKind.wrap .u8 x0.Kind)]) r2 ∧
 (∀ x∈r2,0≤x∧x<256) ∧
 φ (((bstrI r2),0))):L2 x0 z0 φ:=
 mIn <|
 mCal 4 h (fun _ h=>h) (hf:=(fun _=>clF_flat (flat_ow (e:=(eI .u8)) (fun _=>rfl)) rfl)) fun r2 _ h=>
 h.elim fun h3 h=>
 mVl 4 (val_tostr (s:=133) (t:=9) (et:=5) (x:=(.tmp 49)) (d:=.alias 4 []) (l:=r2) (by kernel_rfl) (by kernel_rfl) (elemsOf_ow (by kernel_rfl)) (by kernel_rfl) (by kernel_rfl) (by kernel_rfl) h3) <|
 mRet 3 h
theorem L3_step (x0:api_Value) (φ:ByteArray×Int→Prop) (h :
 (if x0.Kind=2 then
 value_Key.L1 x0 ([(IntKind.wrap .u8 x0.Kind)]) 0 φ
 else
 (∀ x∈([(IntKind.wrap .u8 x0.Kind)]),0≤x∧x<256) ∧
 φ (((bstrI [(IntKind.wrap .u8 x0.Kind)]),0)))):L3 x0 φ:=
 mIn <|
 mCon 4 h beq_t beq_f (fun h=>
 mFin 6 h) fun h=>
 h.elim fun h4 h=>
 mVl 3 (val_tostr (s:=133) (t:=9) (et:=5) (x:=(.tmp 49)) (d:=.alias 4 []) (l:=[(IntKind.wrap .u8 x0.Kind)]) (by kernel_rfl) (by kernel_rfl) (elemsOf_ow (by kernel_rfl)) (by kernel_rfl) (by kernel_rfl) (by kernel_rfl) h4) <|
 mRet 3 h
theorem L1_step (x0:api_Value) (z0:List Int) (z1:Int) (φ:ByteArray×Int→Prop) (h :
 (if z1<(bsize x0.Str) then
 ∃ b5,((0:Int)≤z1∧x0.Str[(z1).toNat]? = some b5) ∧
 (z0.length+1)*1≤140737488355328 ∧
 ∃ b9,((0:Int)≤z1∧x0.Str[(z1).toNat]? = some b9) ∧
 (if (u8i b9)=0 then
 (((z0++[(u8i b5)])).length+1)*1≤140737488355328 ∧
 value_Key.L4 x0 (((z0++[(u8i b5)])++[255])) z1 φ
 else
 value_Key.L4 x0 ((z0++[(u8i b5)])) z1 φ)
 else
 (z0.length+2)*1≤140737488355328 ∧
 (∀ x∈((z0++[0,1])),0≤x∧x<256) ∧
 φ (((bstrI (z0++[0,1])),0)))):L1 x0 z0 z1 φ:=
 mIn <|
 mAsk 2 h dT dF (fun h=>
 mSt 12 h fun b5 h=>
 mApp 1 (eI .u8) z0 ([(u8i b5)]) h fun h=>
 mSt 6 h fun b9 h=>
 mAsk 0 h beq_t beq_f (fun h=>
 mApp 5 (eI .u8) ((z0++[(u8i b5)])) ([255]) h fun h=>
 mFin 2 h) fun h=>
 mFin 3 h) fun h=>
 mApp 6 (eI .u8) z0 ([0,1]) h fun h=>
 h.elim fun h14 h=>
 mVl 4 (val_tostr (s:=133) (t:=9) (et:=5) (x:=(.tmp 49)) (d:=.alias 4 []) (l:=(z0++[0,1])) (by kernel_rfl) (by kernel_rfl) (elemsOf_ow (by kernel_rfl)) (by kernel_rfl) (by kernel_rfl) (by kernel_rfl) h14) <|
 mRet 3 h
theorem L4_step (x0:api_Value) (z0:List Int) (z1:Int) (φ:ByteArray×Int→Prop) (h :
 value_Key.L1 x0 z0 ((IntKind.wrap .i64 (z1+1))) φ):L4 x0 z0 z1 φ:=
 mIn <|
 mFin 4 h
theorem enter (x0:api_Value) (φ:ByteArray×Int→Prop) (h :
 ∃ r1:Bool,value_Valid.C x0 r1 ∧
 (if r1=true then
 (if x0.Kind=1 then
 (if x0.Kind=1 then
 value_Key.L2 x0 ((x0.Kind == 1)) φ
 else
 value_Key.L3 x0 φ)
 else
 (if x0.Kind=3 then
 value_Key.L2 x0 ((x0.Kind == 3)) φ
 else
 value_Key.L3 x0 φ))
 else
 φ (((⟨#[]⟩:ByteArray),1)))):∃ r,φ r∧C x0 r:=
 mEnt (fd:=Tryz.f75) (body:=B) (V:=W) (res:=res) <|
 mCalB 7 h (fun _ h=>h) (fun _ h=>
 mCon 19 h beq_t beq_f (fun h=>
 mCon 1 h beq_t beq_f (fun h=>
 mFin 0 h) fun h=>
 mFin 0 h) fun h=>
 mCon 4 h beq_t beq_f (fun h=>
 mFin 0 h) fun h=>
 mFin 0 h) fun _ h=>
 mRet 7 h
end value_Key
end Go.Own
namespace Go.Own
open Go.Proofs D
set_option maxRecDepth 100000
set_option maxHeartbeats 4000000
namespace drossref03_Values
noncomputable def B:Code:=(Tryz.f87.body).getD .skip
def W:List Nat:=[0,1,2,4,5,6,11,16]
def res (r:List api_Value):D×List D:=(.own (r.map enc_api_Value),[])
def C (x0:api_Row) (x1:Int) (r:List api_Value):Prop:=Ret env 87 [.agg [.lit (.int .i64 x0.ID),.sl (x0.Values.map enc_api_Value)],.lit (.int .u32 x1)] (res r).1 (res r).2
def L1 (x0:api_Row) (x1:Int) (z0:List api_Value) (z1:Int) (φ:List api_Value→Prop):Prop:=Pt env 87 W B [1,1,0,1,0] [(0,.agg [.lit (.int .i64 x0.ID),.sl (x0.Values.map enc_api_Value)]),(1,.lit (.int .u32 x1)),(2,.box [.lit (.int .i64 x0.ID),.sl (x0.Values.map enc_api_Value)]),(5,.own (z0.map enc_api_Value)),(6,.lit (.int .i64 z1))] (Lv env 87 Tryz.f87 2 res φ)
def L2 (x0:api_Row) (x1:Int) (z0:List api_Value) (z1:Int) (φ:List api_Value→Prop):Prop:=Pt env 87 W B [1,1,0,1,0,0,1,1] [(0,.agg [.lit (.int .i64 x0.ID),.sl (x0.Values.map enc_api_Value)]),(1,.lit (.int .u32 x1)),(2,.box [.lit (.int .i64 x0.ID),.sl (x0.Values.map enc_api_Value)]),(5,.own (z0.map enc_api_Value)),(6,.lit (.int .i64 z1))] (Lv env 87 Tryz.f87 2 res φ)
theorem L1_step (x0:api_Row) (x1:Int) (z0:List api_Value) (z1:Int) (φ:List api_Value→Prop) (h :
 (if z1<(x0.Values.length:Int) then
 ∃ r1:Bool,drossref02_Has.C x1 z1 r1 ∧
 (if r1=true then
 ∃ a2,lget x0.Values z1=some a2 ∧
 (z0.length+1)*32≤140737488355328 ∧
 drossref03_Values.L2 x0 x1 ((z0++[a2])) z1 φ
 else
 drossref03_Values.L2 x0 x1 z0 z1 φ)
 else
 φ z0)):L1 x0 x1 z0 z1 φ:=
 mIn <|
 mLen 5 enc_api_Value x0.Values <|
 mAsk 0 h dT dF (fun h=>
 mCalB 6 h (fun _ h=>h) (fun _ h=>
 mIx 7 enc_api_Value h fun a2 h3 h=>
 mApp 2 enc_api_Value z0 ([a2]) h fun h=>
 mFin 2 h) fun _ h=>
 mFin 3 h) fun h=>
 mRet 7 h
theorem L2_step (x0:api_Row) (x1:Int) (z0:List api_Value) (z1:Int) (φ:List api_Value→Prop) (h :
 drossref03_Values.L1 x0 x1 z0 ((IntKind.wrap .i64 (z1+1))) φ):L2 x0 x1 z0 z1 φ:=
 mIn <|
 mFin 5 h
theorem enter (x0:api_Row) (x1:Int) (φ:List api_Value→Prop) (h :
 drossref03_Values.L1 x0 x1 ([]) 0 φ):∃ r,φ r∧C x0 x1 r:=
 mEnt (fd:=Tryz.f87) (body:=B) (V:=W) (res:=res) <|
 mFin 10 h
end drossref03_Values
end Go.Own
namespace Go.Own
open Go.Proofs D
set_option maxRecDepth 100000
set_option maxHeartbeats 4000000
namespace drossref03_Agree
noncomputable def B:Code:=(Tryz.f65.body).getD .skip
def W:List Nat:=[0,1,2,3,4,6]
def res (r:Bool):D×List D:=(.lit (.bool r),[])
def C (x0 x1:api_Row) (x2:Int) (r:Bool):Prop:=Ret env 65 [.agg [.lit (.int .i64 x0.ID),.sl (x0.Values.map enc_api_Value)],.agg [.lit (.int .i64 x1.ID),.sl (x1.Values.map enc_api_Value)],.lit (.int .u32 x2)] (res r).1 (res r).2
theorem enter (x0 x1:api_Row) (x2:Int) (φ:Bool→Prop) (h :
 ∃ r1:List api_Value,drossref03_Values.C x0 x2 r1 ∧
 ∃ r2:List api_Value,drossref03_Values.C x1 x2 r2 ∧
 ∃ r3:Bool,drossref01_Same.C r1 r2 r3 ∧
 φ r3):∃ r,φ r∧C x0 x1 x2 r:=
 mEnt (fd:=Tryz.f65) (body:=B) (V:=W) (res:=res) <|
 mLo 8 h (fun _ h=>h) (hf:=(fun _=>loF_flat (flat_ow (e:=enc_api_Value) (fun _=>rfl)))) fun r1 _ h=>
 mCal 2 h (fun _ h=>h) (hf:=(fun _=>clF_flat (flat_ow (e:=enc_api_Value) (fun _=>rfl)) rfl)) fun r2 _ h=>
 mCal 0 h (fun _ h=>h) (hr:=by exact (pr_snap (snap_ow (s:=9) (ps:=[]) (l:=r1) (e:=enc_api_Value) (e':=enc_api_Value) (fun _=>rfl) (by kernel_rfl)) (pr_snap (snap_ow (s:=12) (ps:=[]) (l:=r2) (e:=enc_api_Value) (e':=enc_api_Value) (fun _=>rfl) (by kernel_rfl)) pr_nil))) fun r3 _ h=>
 mRet 2 h
end drossref03_Agree
end Go.Own
namespace Go.Own
open Go.Proofs D
set_option maxRecDepth 100000
set_option maxHeartbeats 4000000
namespace aggregate_conditions
noncomputable def B:Code:=(Tryz.f51.body).getD .skip
def W:List Nat:=[0,1,2,4,6,7,8,9,10,13,25]
def res (r:Int):D×List D:=(.lit (.int .i64 r),[])
def C (x0:api_Table) (x1:List api_Condition) (r:Int):Prop:=Ret env 51 [.agg [.lit (.string x0.Name),.sl (x0.Attrs.map eS),.sl (x0.Rows.map enc_api_Row)],.sl (x1.map enc_api_Condition)] (res r).1 (res r).2
def L1 (x0:api_Table) (x1:List api_Condition) (z0:Int) (φ:Int→Prop):Prop:=Pt env 51 W B [1,0,1,0] [(0,.agg [.lit (.string x0.Name),.sl (x0.Attrs.map eS),.sl (x0.Rows.map enc_api_Row)]),(1,.sl (x1.map enc_api_Condition)),(2,.box [.lit (.string x0.Name),.sl (x0.Attrs.map eS),.sl (x0.Rows.map enc_api_Row)]),(7,.sl (x1.map enc_api_Condition)),(8,.lit (.int .i64 ((x1.length:Int)))),(9,.lit (.int .i64 z0))] (Lv env 51 Tryz.f51 2 res φ)
theorem L1_step (x0:api_Table) (x1:List api_Condition) (z0:Int) (φ:Int→Prop) (h :
 (if z0<(x1.length:Int) then
 ∃ a1,lget x1 z0=some a1 ∧
 (if a1.Attr<0 then
 φ 6
 else
 (if (x0.Attrs.length:Int)≤a1.Attr then
 φ 6
 else
 (if a1.Op<1 then
 φ 1
 else
 (if 4<a1.Op then
 φ 1
 else
 ∃ r3:Bool,value_Valid.C a1.Value r3 ∧
 (if r3=true then
 aggregate_conditions.L1 x0 x1 ((IntKind.wrap .i64 (z0+1))) φ
 else
 φ 1)))))
 else
 φ 0)):L1 x0 x1 z0 φ:=
 mIn <|
 mAsk 2 h dT dF (fun h=>
 mIx 4 enc_api_Condition h fun a1 h2 h=>
 mAsk 7 h dT dF (fun h=>
 mRet 14 h) fun h=>
 mLen 5 eS x0.Attrs <|
 mCon 4 h dT dF (fun h=>
 mRet 3 h) fun h=>
 mAsk 3 h dT dF (fun h=>
 mRet 17 h) fun h=>
 mAsk 3 h dT dF (fun h=>
 mRet 13 h) fun h=>
 mCal 4 h (fun _ h=>h) fun r3 _ h=>
 mConN 4 h (fun h=>fls (not_t h)) (fun h=>id (not_f h)) (fun h=>
 mRet 3 h) fun h=>
 mFin 5 h) fun h=>
 mRet 6 h
theorem enter (x0:api_Table) (x1:List api_Condition) (φ:Int→Prop) (h :
 aggregate_conditions.L1 x0 x1 0 φ):∃ r,φ r∧C x0 x1 r:=
 mEnt (fd:=Tryz.f51) (body:=B) (V:=W) (res:=res) <|
 mLen 6 enc_api_Condition x1 <|
 mFin 2 h
end aggregate_conditions
end Go.Own
namespace Go.Own
open Go.Proofs D
set_option maxRecDepth 100000
set_option maxHeartbeats 4000000
namespace aggregate_keyed
noncomputable def B:Code:=(Tryz.f28.body).getD .skip
def W:List Nat:=[0,1,2,4,5,9,16]
def res (r:Int):D×List D:=(.lit (.int .i64 r),[])
def C (x0:api_Table) (x1 r:Int):Prop:=Ret env 28 [.agg [.lit (.string x0.Name),.sl (x0.Attrs.map eS),.sl (x0.Rows.map enc_api_Row)],.lit (.int .u32 x1)] (res r).1 (res r).2
theorem enter (x0:api_Table) (x1:Int) (φ:Int→Prop) (h :
 ∃ r1:Int,table_Valid.C x0 r1 ∧
 (if r1=0 then
 0≤(x0.Attrs.length:Int) ∧
 (if (shrw .u32 x1 (x0.Attrs.length:Int))=0 then
 φ 0
 else
 φ 6)
 else
 φ r1)):∃ r,φ r∧C x0 x1 r:=
 mEnt (fd:=Tryz.f28) (body:=B) (V:=W) (res:=res) <|
 mCal 6 h (fun _ h=>h) fun r1 _ h=>
 mAskN 4 h bne_t bne_f (fun h=>
 mRet 6 h) fun h=>
 mLen 7 eS x0.Attrs <|
 h.elim fun h2 h=>
 mBi 0 (bin_shr (t:=27) (q:=.u32) (q':=.i64) (i1:=x1) h2) <|
 mAskN 0 h bne_t bne_f (fun h=>
 mRet 5 h) fun h=>
 mRet 6 h
end aggregate_keyed
end Go.Own
namespace Go.Own
open Go.Proofs D
set_option maxRecDepth 100000
set_option maxHeartbeats 4000000
namespace aggregate_check
noncomputable def B:Code:=(Tryz.f31.body).getD .skip
def W:List Nat:=[0,1,2,3,4,5,10,11,12,17,23,30,43]
def res (r:Int):D×List D:=(.lit (.int .i64 r),[])
def C (x0:api_Table) (x1:Int) (x2:List api_Condition) (x3 x4 r:Int):Prop:=Ret env 31 [.agg [.lit (.string x0.Name),.sl (x0.Attrs.map eS),.sl (x0.Rows.map enc_api_Row)],.lit (.int .u32 x1),.sl (x2.map enc_api_Condition),.lit (.int .i64 x3),.lit (.int .i64 x4)] (res r).1 (res r).2
theorem enter (x0:api_Table) (x1:Int) (x2:List api_Condition) (x3 x4:Int) (φ:Int→Prop) (h :
 ∃ r1:Int,aggregate_keyed.C x0 x1 r1 ∧
 (if r1=0 then
 ∃ r2:Int,aggregate_conditions.C x0 x2 r2 ∧
 (if r2=0 then
 (if x3<1 then
 φ 1
 else
 (if 4<x3 then
 φ 1
 else
 (if x3=1 then
 φ 0
 else
 (if x4<0 then
 φ 6
 else
 (if (x0.Attrs.length:Int)≤x4 then
 φ 6
 else
 φ 0)))))
 else
 φ r2)
 else
 φ r1)):∃ r,φ r∧C x0 x1 x2 x3 x4 r:=
 mEnt (fd:=Tryz.f31) (body:=B) (V:=W) (res:=res) <|
 mCal 7 h (fun _ h=>h) fun r1 _ h=>
 mAskN 4 h bne_t bne_f (fun h=>
 mRet 6 h) fun h=>
 mCal 6 h (fun _ h=>h) fun r2 _ h=>
 mAskN 4 h bne_t bne_f (fun h=>
 mRet 6 h) fun h=>
 mAsk 5 h dT dF (fun h=>
 mRet 9 h) fun h=>
 mAsk 2 h dT dF (fun h=>
 mRet 6 h) fun h=>
 mAskN 6 h bne_t bne_f (fun h=>
 mAsk 2 h dT dF (fun h=>
 mRet 13 h) fun h=>
 mLen 4 eS x0.Attrs <|
 mAsk 0 h dT dF (fun h=>
 mRet 7 h) fun h=>
 mRet 8 h) fun h=>
 mRet 17 h
end aggregate_check
end Go.Own
namespace Go.Own
open Go.Proofs D
set_option maxRecDepth 100000
set_option maxHeartbeats 4000000
namespace cmp_isNaN_int
noncomputable def B:Code:=(Tryz.f105.body).getD .skip
def W:List Nat:=[0,2]
def res (r:Bool):D×List D:=(.lit (.bool r),[])
def C (x0:Int) (r:Bool):Prop:=Ret env 105 [.lit (.int .i64 x0)] (res r).1 (res r).2
theorem enter (x0:Int) (φ:Bool→Prop) (h :
 φ ((x0 != x0))):∃ r,φ r∧C x0 r:=
 mEnt (fd:=Tryz.f105) (body:=B) (V:=W) (res:=res) <|
 mRet 9 h
end cmp_isNaN_int
end Go.Own
namespace Go.Own
open Go.Proofs D
set_option maxRecDepth 100000
set_option maxHeartbeats 4000000
namespace cmp_Compare_int
noncomputable def B:Code:=(Tryz.f96.body).getD .skip
def W:List Nat:=[0,1,4,5,6,11,12,13,16,19]
def res (r:Int):D×List D:=(.lit (.int .i64 r),[])
def C (x0 x1 r:Int):Prop:=Ret env 96 [.lit (.int .i64 x0),.lit (.int .i64 x1)] (res r).1 (res r).2
theorem enter (x0 x1:Int) (φ:Int→Prop) (h :
 ∃ r1:Bool,cmp_isNaN_int.C x0 r1 ∧
 ∃ r2:Bool,cmp_isNaN_int.C x1 r2 ∧
 (if r1=true then
 (if r2=true then
 φ 0
 else
 φ ((-1)))
 else
 (if r2=true then
 φ 1
 else
 (if x0<x1 then
 φ ((-1))
 else
 (if x1<x0 then
 φ 1
 else
 φ 0))))):∃ r,φ r∧C x0 x1 r:=
 mEnt (fd:=Tryz.f96) (body:=B) (V:=W) (res:=res) <|
 mCal 5 h (fun _ h=>h) fun r1 _ h=>
 mCal 4 h (fun _ h=>h) fun r2 _ h=>
 mAsk 3 h id fls (fun h=>
 mAsk 3 h id fls (fun h=>
 mRet 5 h) fun h=>
 mRet 6 h) fun h=>
 mAsk 4 h id fls (fun h=>
 mRet 5 h) fun h=>
 mAsk 6 h dT dF (fun h=>
 mRet 5 h) fun h=>
 mAsk 6 h dT dF (fun h=>
 mRet 5 h) fun h=>
 mRet 6 h
end cmp_Compare_int
end Go.Own
namespace Go.Own
open Go.Proofs D
set_option maxRecDepth 100000
set_option maxHeartbeats 4000000
namespace cmp_isNaN_int64
noncomputable def B:Code:=(Tryz.f106.body).getD .skip
def W:List Nat:=[0,2]
def res (r:Bool):D×List D:=(.lit (.bool r),[])
def C (x0:Int) (r:Bool):Prop:=Ret env 106 [.lit (.int .i64 x0)] (res r).1 (res r).2
theorem enter (x0:Int) (φ:Bool→Prop) (h :
 φ ((x0 != x0))):∃ r,φ r∧C x0 r:=
 mEnt (fd:=Tryz.f106) (body:=B) (V:=W) (res:=res) <|
 mRet 9 h
end cmp_isNaN_int64
end Go.Own
namespace Go.Own
open Go.Proofs D
set_option maxRecDepth 100000
set_option maxHeartbeats 4000000
namespace cmp_Compare_int64
noncomputable def B:Code:=(Tryz.f97.body).getD .skip
def W:List Nat:=[0,1,4,5,6,11,12,13,16,19]
def res (r:Int):D×List D:=(.lit (.int .i64 r),[])
def C (x0 x1 r:Int):Prop:=Ret env 97 [.lit (.int .i64 x0),.lit (.int .i64 x1)] (res r).1 (res r).2
theorem enter (x0 x1:Int) (φ:Int→Prop) (h :
 ∃ r1:Bool,cmp_isNaN_int64.C x0 r1 ∧
 ∃ r2:Bool,cmp_isNaN_int64.C x1 r2 ∧
 (if r1=true then
 (if r2=true then
 φ 0
 else
 φ ((-1)))
 else
 (if r2=true then
 φ 1
 else
 (if x0<x1 then
 φ ((-1))
 else
 (if x1<x0 then
 φ 1
 else
 φ 0))))):∃ r,φ r∧C x0 x1 r:=
 mEnt (fd:=Tryz.f97) (body:=B) (V:=W) (res:=res) <|
 mCal 5 h (fun _ h=>h) fun r1 _ h=>
 mCal 4 h (fun _ h=>h) fun r2 _ h=>
 mAsk 3 h id fls (fun h=>
 mAsk 3 h id fls (fun h=>
 mRet 5 h) fun h=>
 mRet 6 h) fun h=>
 mAsk 4 h id fls (fun h=>
 mRet 5 h) fun h=>
 mAsk 6 h dT dF (fun h=>
 mRet 5 h) fun h=>
 mAsk 6 h dT dF (fun h=>
 mRet 5 h) fun h=>
 mRet 6 h
end cmp_Compare_int64
end Go.Own
namespace Go.Own
open Go.Proofs D
set_option maxRecDepth 100000
set_option maxHeartbeats 4000000
namespace cmp_Or_int
noncomputable def B:Code:=(Tryz.f95.body).getD .skip
def W:List Nat:=[0,2,3,5,6,7,8,9,14]
def res (r:Int):D×List D:=(.lit (.int .i64 r),[])
def C (x0:List Int) (r:Int):Prop:=Ret env 95 [.sl (x0.map (eI .i64))] (res r).1 (res r).2
def L1 (x0:List Int) (z0:Int) (φ:Int→Prop):Prop:=Pt env 95 W B [1,1,0,1,0] [(0,.sl (x0.map (eI .i64))),(3,.lit (.int .i64 0)),(6,.sl (x0.map (eI .i64))),(7,.lit (.int .i64 ((x0.length:Int)))),(8,.lit (.int .i64 z0))] (Lv env 95 Tryz.f95 1 res φ)
theorem L1_step (x0:List Int) (z0:Int) (φ:Int→Prop) (h :
 (if z0<(x0.length:Int) then
 ∃ a1,lget x0 z0=some a1 ∧
 (if a1=0 then
 cmp_Or_int.L1 x0 ((IntKind.wrap .i64 (z0+1))) φ
 else
 φ a1)
 else
 φ 0)):L1 x0 z0 φ:=
 mIn <|
 mAsk 2 h dT dF (fun h=>
 mIx 4 (eI .i64) h fun a1 h2 h=>
 mAskN 6 h bne_t bne_f (fun h=>
 mRet 6 h) fun h=>
 mFin 7 h) fun h=>
 mRet 7 h
theorem enter (x0:List Int) (φ:Int→Prop) (h :
 cmp_Or_int.L1 x0 0 φ):∃ r,φ r∧C x0 r:=
 mEnt (fd:=Tryz.f95) (body:=B) (V:=W) (res:=res) <|
 mLen 8 (eI .i64) x0 <|
 mFin 2 h
end cmp_Or_int
end Go.Own
namespace Go.Own
open Go.Proofs D
set_option maxRecDepth 100000
set_option maxHeartbeats 4000000
namespace internal_bytealg_CompareString
noncomputable def B:Code:=(Tryz.f107.body).getD .skip
def W:List Nat:=[0,1,4]
def res (r:Int):D×List D:=(.lit (.int .i64 r),[])
def C (x0 x1:ByteArray) (r:Int):Prop:=Ret env 107 [.lit (.string x0),.lit (.string x1)] (res r).1 (res r).2
theorem enter (x0 x1:ByteArray) (φ:Int→Prop) (h :
 φ ((bcmp x0 x1))):∃ r,φ r∧C x0 x1 r:=
 mEnt (fd:=Tryz.f107) (body:=B) (V:=W) (res:=res) <|
 mCalP 6 (show Ret env 108 [.lit (.string x0),.lit (.string x1)] (.lit (.int .i64 ((bcmp x0 x1)))) [] from ret_cmp (by kernel_rfl)) <|
 mRet 2 h
end internal_bytealg_CompareString
end Go.Own
namespace Go.Own
open Go.Proofs D
set_option maxRecDepth 100000
set_option maxHeartbeats 4000000
namespace strings_Compare
noncomputable def B:Code:=(Tryz.f98.body).getD .skip
def W:List Nat:=[0,1,4]
def res (r:Int):D×List D:=(.lit (.int .i64 r),[])
def C (x0 x1:ByteArray) (r:Int):Prop:=Ret env 98 [.lit (.string x0),.lit (.string x1)] (res r).1 (res r).2
theorem enter (x0 x1:ByteArray) (φ:Int→Prop) (h :
 ∃ r1:Int,internal_bytealg_CompareString.C x0 x1 r1 ∧
 φ r1):∃ r,φ r∧C x0 x1 r:=
 mEnt (fd:=Tryz.f98) (body:=B) (V:=W) (res:=res) <|
 mCal 6 h (fun _ h=>h) fun r1 _ h=>
 mRet 2 h
end strings_Compare
end Go.Own
namespace Go.Own
open Go.Proofs D
set_option maxRecDepth 100000
set_option maxHeartbeats 4000000
namespace value_Compare
noncomputable def B:Code:=(Tryz.f78.body).getD .skip
def W:List Nat:=[0,1,2,3,4]
def res (r:Int):D×List D:=(.lit (.int .i64 r),[])
def C (x0 x1:api_Value) (r:Int):Prop:=Ret env 78 [.agg [.lit (.int .i64 x0.Kind),.lit (.int .i64 x0.Num),.lit (.string x0.Str)],.agg [.lit (.int .i64 x1.Kind),.lit (.int .i64 x1.Num),.lit (.string x1.Str)]] (res r).1 (res r).2
theorem enter (x0 x1:api_Value) (φ:Int→Prop) (h :
 ∃ r1:Int,cmp_Compare_int.C x0.Kind x1.Kind r1 ∧
 ∃ r2:Int,cmp_Compare_int64.C x0.Num x1.Num r2 ∧
 ∃ r3:Int,strings_Compare.C x0.Str x1.Str r3 ∧
 ∃ r4:Int,cmp_Or_int.C ([r1,r2,r3]) r4 ∧
 φ r4):∃ r,φ r∧C x0 x1 r:=
 mEnt (fd:=Tryz.f78) (body:=B) (V:=W) (res:=res) <|
 mLo 10 h (fun _ h=>h) fun r1 _ h=>
 mLo 4 h (fun _ h=>h) fun r2 _ h=>
 mCal 4 h (fun _ h=>h) fun r3 _ h=>
 mCal 1 h (fun _ h=>h) (hr:=by exact (pr_snap (snap_ow (s:=20) (ps:=[]) (l:=[r1,r2,r3]) (e:=(eI .i64)) (e':=(eI .i64)) (fun _=>rfl) (by kernel_rfl)) pr_nil)) fun r4 _ h=>
 mRet 2 h
end value_Compare
end Go.Own
namespace Go.Own
open Go.Proofs D
set_option maxRecDepth 100000
set_option maxHeartbeats 4000000
namespace aggregate_satisfies
noncomputable def B:Code:=(Tryz.f49.body).getD .skip
def W:List Nat:=[0,1,2,4,6,7,8,9,10,11,12,27,28,32,36,41]
def res (r:Bool):D×List D:=(.lit (.bool r),[])
def C (x0:api_Row) (x1:List api_Condition) (r:Bool):Prop:=Ret env 49 [.agg [.lit (.int .i64 x0.ID),.sl (x0.Values.map enc_api_Value)],.sl (x1.map enc_api_Condition)] (res r).1 (res r).2
def L1 (x0:api_Row) (x1:List api_Condition) (z0:Int) (φ:Bool→Prop):Prop:=Pt env 49 W B [1,0,1,0] [(0,.agg [.lit (.int .i64 x0.ID),.sl (x0.Values.map enc_api_Value)]),(1,.sl (x1.map enc_api_Condition)),(2,.box [.lit (.int .i64 x0.ID),.sl (x0.Values.map enc_api_Value)]),(9,.sl (x1.map enc_api_Condition)),(10,.lit (.int .i64 ((x1.length:Int)))),(11,.lit (.int .i64 z0))] (Lv env 49 Tryz.f49 2 res φ)
def L2 (x0:api_Row) (x1:List api_Condition) (z0:Bool) (z1:Int) (φ:Bool→Prop):Prop:=Pt env 49 W B [1,0,1,0,0,1,1,0,0,1,1,1,1,0] [(0,.agg [.lit (.int .i64 x0.ID),.sl (x0.Values.map enc_api_Value)]),(1,.sl (x1.map enc_api_Condition)),(2,.box [.lit (.int .i64 x0.ID),.sl (x0.Values.map enc_api_Value)]),(8,.lit (.bool z0)),(9,.sl (x1.map enc_api_Condition)),(10,.lit (.int .i64 ((x1.length:Int)))),(11,.lit (.int .i64 z1))] (Lv env 49 Tryz.f49 2 res φ)
theorem L1_step (x0:api_Row) (x1:List api_Condition) (z0:Int) (φ:Bool→Prop) (h :
 (if z0<(x1.length:Int) then
 ∃ a1,lget x1 z0=some a1 ∧
 ∃ a3,lget x0.Values a1.Attr=some a3 ∧
 ∃ r5:Int,value_Compare.C a3 a1.Value r5 ∧
 (if a1.Op=2 then
 aggregate_satisfies.L2 x0 x1 ((r5 != 0)) z0 φ
 else
 (if a1.Op=3 then
 aggregate_satisfies.L2 x0 x1 ((decide (r5<0))) z0 φ
 else
 (if a1.Op=4 then
 aggregate_satisfies.L2 x0 x1 ((decide (r5≤0))) z0 φ
 else
 aggregate_satisfies.L2 x0 x1 ((r5 == 0)) z0 φ)))
 else
 φ true)):L1 x0 x1 z0 φ:=
 mIn <|
 mAsk 2 h dT dF (fun h=>
 mIx 4 enc_api_Condition h fun a1 h2 h=>
 mIx 9 enc_api_Value h fun a3 h4 h=>
 mCal 3 h (fun _ h=>h) fun r5 _ h=>
 mCon 15 h beq_t beq_f (fun h=>
 mFin 5 h) fun h=>
 mCon 4 h beq_t beq_f (fun h=>
 mFin 5 h) fun h=>
 mCon 4 h beq_t beq_f (fun h=>
 mFin 5 h) fun h=>
 mFin 1 h) fun h=>
 mRet 6 h
theorem L2_step (x0:api_Row) (x1:List api_Condition) (z0:Bool) (z1:Int) (φ:Bool→Prop) (h :
 (if z0=true then
 aggregate_satisfies.L1 x0 x1 ((IntKind.wrap .i64 (z1+1))) φ
 else
 φ false)):L2 x0 x1 z0 z1 φ:=
 mIn <|
 mAsk 1 h id fls (fun h=>
 mFin 8 h) fun h=>
 mRet 6 h
theorem enter (x0:api_Row) (x1:List api_Condition) (φ:Bool→Prop) (h :
 aggregate_satisfies.L1 x0 x1 0 φ):∃ r,φ r∧C x0 x1 r:=
 mEnt (fd:=Tryz.f49) (body:=B) (V:=W) (res:=res) <|
 mLen 6 enc_api_Condition x1 <|
 mFin 2 h
end aggregate_satisfies
end Go.Own
namespace Go.Own
open Go.Proofs D
set_option maxRecDepth 100000
set_option maxHeartbeats 4000000
namespace drossref51_Conditions
noncomputable def B:Code:=(Tryz.f37.body).getD .skip
def W:List Nat:=[0,1,2,4,5,9,28,51]
def res (r:Int):D×List D:=(.lit (.int .i64 r),[])
def C (x0:api_Table) (x1:List api_Condition) (r:Int):Prop:=Ret env 37 [.agg [.lit (.string x0.Name),.sl (x0.Attrs.map eS),.sl (x0.Rows.map enc_api_Row)],.sl (x1.map enc_api_Condition)] (res r).1 (res r).2
def L1 (x0:api_Table) (x1:List api_Condition) (z0:Int) (φ:Int→Prop):Prop:=Pt env 37 W B [1,0,1,0] [(0,.agg [.lit (.string x0.Name),.sl (x0.Attrs.map eS),.sl (x0.Rows.map enc_api_Row)]),(1,.sl (x1.map enc_api_Condition)),(2,.box [.lit (.string x0.Name),.sl (x0.Attrs.map eS),.sl (x0.Rows.map enc_api_Row)]),(5,.lit (.int .i64 z0))] (Lv env 37 Tryz.f37 2 res φ)
theorem L1_step (x0:api_Table) (x1:List api_Condition) (z0:Int) (φ:Int→Prop) (h :
 (if z0<(x1.length:Int) then
 ∃ a1,lget x1 z0=some a1 ∧
 (if a1.Attr<0 then
 φ 6
 else
 (if (x0.Attrs.length:Int)≤a1.Attr then
 φ 6
 else
 (if a1.Op<1 then
 φ 1
 else
 (if 4<a1.Op then
 φ 1
 else
 ∃ r3:Bool,drossref01_Valid.C a1.Value r3 ∧
 (if r3=true then
 drossref51_Conditions.L1 x0 x1 ((IntKind.wrap .i64 (z0+1))) φ
 else
 φ 1)))))
 else
 φ 0)):L1 x0 x1 z0 φ:=
 mIn <|
 mLen 4 enc_api_Condition x1 <|
 mAsk 0 h dT dF (fun h=>
 mIx 6 enc_api_Condition h fun a1 h2 h=>
 mAsk 2 h dT dF (fun h=>
 mRet 16 h) fun h=>
 mIxf 3 enc_api_Condition h2 <|
 mLen 4 eS x0.Attrs <|
 mAsk 0 h dT dF (fun h=>
 mRet 6 h) fun h=>
 mIxf 7 enc_api_Condition h2 <|
 mAsk 2 h dT dF (fun h=>
 mRet 22 h) fun h=>
 mIxf 3 enc_api_Condition h2 <|
 mAsk 2 h dT dF (fun h=>
 mRet 15 h) fun h=>
 mIxf 4 enc_api_Condition h2 <|
 mCalB 2 h (fun _ h=>h) (fun _ h=>
 mFin 10 h) fun _ h=>
 mRet 7 h) fun h=>
 mRet 6 h
theorem enter (x0:api_Table) (x1:List api_Condition) (φ:Int→Prop) (h :
 drossref51_Conditions.L1 x0 x1 0 φ):∃ r,φ r∧C x0 x1 r:=
 mEnt (fd:=Tryz.f37) (body:=B) (V:=W) (res:=res) <|
 mFin 7 h
end drossref51_Conditions
end Go.Own
namespace Go.Own
open Go.Proofs D
set_option maxRecDepth 100000
set_option maxHeartbeats 4000000
namespace drossref51_Key
noncomputable def B:Code:=(Tryz.f36.body).getD .skip
def W:List Nat:=[0,1,2,4,5,9,17]
def res (r:Int):D×List D:=(.lit (.int .i64 r),[])
def C (x0:api_Table) (x1 r:Int):Prop:=Ret env 36 [.agg [.lit (.string x0.Name),.sl (x0.Attrs.map eS),.sl (x0.Rows.map enc_api_Row)],.lit (.int .u32 x1)] (res r).1 (res r).2
theorem enter (x0:api_Table) (x1:Int) (φ:Int→Prop) (h :
 ∃ r1:Int,drossref03_Valid.C x0 r1 ∧
 (if r1=0 then
 ∃ r2:Int,drossref02_Full.C ((x0.Attrs.length:Int)) r2 ∧
 (if (bAndNot .u32 x1 r2)=0 then
 φ 0
 else
 φ 6)
 else
 φ r1)):∃ r,φ r∧C x0 x1 r:=
 mEnt (fd:=Tryz.f36) (body:=B) (V:=W) (res:=res) <|
 mCal 6 h (fun _ h=>h) fun r1 _ h=>
 mAskN 4 h bne_t bne_f (fun h=>
 mRet 6 h) fun h=>
 mLen 7 eS x0.Attrs <|
 mCal 0 h (fun _ h=>h) fun r2 _ h=>
 mAskN 1 h bne_t bne_f (fun h=>
 mRet 5 h) fun h=>
 mRet 6 h
end drossref51_Key
end Go.Own
namespace Go.Own
open Go.Proofs D
set_option maxRecDepth 100000
set_option maxHeartbeats 4000000
namespace drossref51_Kind
noncomputable def B:Code:=(Tryz.f38.body).getD .skip
def W:List Nat:=[0,1,2,3,6,12,25]
def res (r:Int):D×List D:=(.lit (.int .i64 r),[])
def C (x0:api_Table) (x1 x2 r:Int):Prop:=Ret env 38 [.agg [.lit (.string x0.Name),.sl (x0.Attrs.map eS),.sl (x0.Rows.map enc_api_Row)],.lit (.int .i64 x1),.lit (.int .i64 x2)] (res r).1 (res r).2
theorem enter (x0:api_Table) (x1 x2:Int) (φ:Int→Prop) (h :
 (if x1<1 then
 φ 1
 else
 (if 4<x1 then
 φ 1
 else
 (if x1=1 then
 φ 0
 else
 (if x2<0 then
 φ 6
 else
 (if (x0.Attrs.length:Int)≤x2 then
 φ 6
 else
 φ 0)))))):∃ r,φ r∧C x0 x1 x2 r:=
 mEnt (fd:=Tryz.f38) (body:=B) (V:=W) (res:=res) <|
 mAsk 6 h dT dF (fun h=>
 mRet 9 h) fun h=>
 mAsk 2 h dT dF (fun h=>
 mRet 6 h) fun h=>
 mAskN 6 h bne_t bne_f (fun h=>
 mAsk 2 h dT dF (fun h=>
 mRet 13 h) fun h=>
 mLen 4 eS x0.Attrs <|
 mAsk 0 h dT dF (fun h=>
 mRet 7 h) fun h=>
 mRet 8 h) fun h=>
 mRet 17 h
end drossref51_Kind
end Go.Own
namespace Go.Own
open Go.Proofs D
set_option maxRecDepth 100000
set_option maxHeartbeats 4000000
namespace drossref51_Error
noncomputable def B:Code:=(Tryz.f19.body).getD .skip
def W:List Nat:=[0,1,2,3,4,5,10,11,12,17,23]
def res (r:Int):D×List D:=(.lit (.int .i64 r),[])
def C (x0:api_Table) (x1:Int) (x2:List api_Condition) (x3 x4 r:Int):Prop:=Ret env 19 [.agg [.lit (.string x0.Name),.sl (x0.Attrs.map eS),.sl (x0.Rows.map enc_api_Row)],.lit (.int .u32 x1),.sl (x2.map enc_api_Condition),.lit (.int .i64 x3),.lit (.int .i64 x4)] (res r).1 (res r).2
theorem enter (x0:api_Table) (x1:Int) (x2:List api_Condition) (x3 x4:Int) (φ:Int→Prop) (h :
 ∃ r1:Int,drossref51_Key.C x0 x1 r1 ∧
 (if r1=0 then
 ∃ r2:Int,drossref51_Conditions.C x0 x2 r2 ∧
 (if r2=0 then
 ∃ r3:Int,drossref51_Kind.C x0 x3 x4 r3 ∧
 φ r3
 else
 φ r2)
 else
 φ r1)):∃ r,φ r∧C x0 x1 x2 x3 x4 r:=
 mEnt (fd:=Tryz.f19) (body:=B) (V:=W) (res:=res) <|
 mCal 7 h (fun _ h=>h) fun r1 _ h=>
 mAskN 4 h bne_t bne_f (fun h=>
 mRet 6 h) fun h=>
 mCal 6 h (fun _ h=>h) fun r2 _ h=>
 mAskN 4 h bne_t bne_f (fun h=>
 mRet 6 h) fun h=>
 mCal 7 h (fun _ h=>h) fun r3 _ h=>
 mRet 2 h
end drossref51_Error
end Go.Own
namespace Go.Own
open Go.Proofs D
set_option maxRecDepth 100000
set_option maxHeartbeats 4000000
namespace drossref51_add
noncomputable def B:Code:=(Tryz.f41.body).getD .skip
def W:List Nat:=[0,1,2,4,5]
def res (r:drossref51_Total):D×List D:=(.agg [.lit (.int .i64 r.High),.lit (.int .i64 r.Low)],[])
def C (x0:drossref51_Total) (x1:Int) (r:drossref51_Total):Prop:=Ret env 41 [.agg [.lit (.int .i64 x0.High),.lit (.int .i64 x0.Low)],.lit (.int .i64 x1)] (res r).1 (res r).2
theorem enter (x0:drossref51_Total) (x1:Int) (φ:drossref51_Total→Prop) (h :
 φ ((⟨(IntKind.wrap .i64 ((IntKind.wrap .i64 (x0.High+(shrw .i64 x1 32)))+(shrw .i64 (IntKind.wrap .i64 (x0.Low+(bAnd .i64 x1 4294967295))) 32))),(bAnd .i64 (IntKind.wrap .i64 (x0.Low+(bAnd .i64 x1 4294967295))) 4294967295)⟩:drossref51_Total))):∃ r,φ r∧C x0 x1 r:=
 mEnt (fd:=Tryz.f41) (body:=B) (V:=W) (res:=res) <|
 mRet 26 h
end drossref51_add
end Go.Own
namespace Go.Own
open Go.Proofs D
set_option maxRecDepth 100000
set_option maxHeartbeats 4000000
namespace drossref51_fits
noncomputable def B:Code:=(Tryz.f24.body).getD .skip
def W:List Nat:=[0,1,2]
def res (r:Bool):D×List D:=(.lit (.bool r),[])
def C (x0:drossref51_Total) (r:Bool):Prop:=Ret env 24 [.agg [.lit (.int .i64 x0.High),.lit (.int .i64 x0.Low)]] (res r).1 (res r).2
theorem enter (x0:drossref51_Total) (φ:Bool→Prop) (h :
 (if (-2147483648)≤x0.High then
 φ ((decide (x0.High≤2147483647)))
 else
 φ false)):∃ r,φ r∧C x0 r:=
 mEnt (fd:=Tryz.f24) (body:=B) (V:=W) (res:=res) <|
 mAsk 7 h dT dF (fun h=>
 mRet 7 h) fun h=>
 mRet 7 h
end drossref51_fits
end Go.Own
namespace Go.Own
open Go.Proofs D
set_option maxRecDepth 100000
set_option maxHeartbeats 4000000
namespace drossref51_Of
noncomputable def B:Code:=(Tryz.f21.body).getD .skip
def W:List Nat:=[0,1,2,6,7,8,9,10,11,12,13,14,16,22,26,39,48,61,93]
def res (r:drossref51_Result):D×List D:=(.agg [.lit (.int .i64 r.Value.Kind),.lit (.int .i64 r.Value.Num),.lit (.string r.Value.Str),.lit (.int .i64 r.Sum.High),.lit (.int .i64 r.Sum.Low),.lit (.bool r.OK)],[])
def C (x0:List api_Row) (x1 x2:Int) (r:drossref51_Result):Prop:=Ret env 21 [.sl (x0.map enc_api_Row),.lit (.int .i64 x1),.lit (.int .i64 x2)] (res r).1 (res r).2
def L1 (x0:List api_Row) (x2 z0:Int) (z1 z2:Int) (φ:drossref51_Result→Prop):Prop:=Pt env 21 W B [1,1,0,1,0,1,0,1,0] [(0,.sl (x0.map enc_api_Row)),(2,.lit (.int .i64 x2)),(6,.box [.lit (.int .i64 0),.lit (.int .i64 0),.lit (.string ((⟨#[]⟩:ByteArray))),.lit (.int .i64 0),.lit (.int .i64 0),.lit (.bool false)]),(7,.box [.lit (.int .i64 z0),.lit (.int .i64 z1)]),(8,.lit (.int .i64 z2))] (Lv env 21 Tryz.f21 3 res φ)
def L2 (x0:List api_Row) (x1 x2:Int) (z0 z1:Int) (z2:ByteArray) (z3:Bool) (z4:Int) (φ:drossref51_Result→Prop):Prop:=Pt env 21 W B [1,1,1,1,0,1,0] [(0,.sl (x0.map enc_api_Row)),(1,.lit (.int .i64 x1)),(2,.lit (.int .i64 x2)),(6,.box [.lit (.int .i64 0),.lit (.int .i64 0),.lit (.string ((⟨#[]⟩:ByteArray))),.lit (.int .i64 0),.lit (.int .i64 0),.lit (.bool false)]),(11,.box [.lit (.int .i64 z0),.lit (.int .i64 z1),.lit (.string z2),.lit (.int .i64 0),.lit (.int .i64 0),.lit (.bool z3)]),(12,.lit (.int .i64 z4))] (Lv env 21 Tryz.f21 3 res φ)
def L3 (x0:List api_Row) (x2 z0:Int) (z1 z2:Int) (φ:drossref51_Result→Prop):Prop:=Pt env 21 W B [1,1,0,1,0,1,0,1,0,0,1,1] [(0,.sl (x0.map enc_api_Row)),(2,.lit (.int .i64 x2)),(6,.box [.lit (.int .i64 0),.lit (.int .i64 0),.lit (.string ((⟨#[]⟩:ByteArray))),.lit (.int .i64 0),.lit (.int .i64 0),.lit (.bool false)]),(7,.box [.lit (.int .i64 z0),.lit (.int .i64 z1)]),(8,.lit (.int .i64 z2))] (Lv env 21 Tryz.f21 3 res φ)
def L4 (x0:List api_Row) (x1 x2:Int) (z0 z1:Int) (z2:ByteArray) (z3:Bool) (z4:Int) (a9:api_Value) (φ:drossref51_Result→Prop):Prop:=Pt env 21 W B [1,1,1,1,0,1,0,0,1,0,0,1,1,1,0] [(0,.sl (x0.map enc_api_Row)),(1,.lit (.int .i64 x1)),(2,.lit (.int .i64 x2)),(6,.box [.lit (.int .i64 0),.lit (.int .i64 0),.lit (.string ((⟨#[]⟩:ByteArray))),.lit (.int .i64 0),.lit (.int .i64 0),.lit (.bool false)]),(11,.box [.lit (.int .i64 z0),.lit (.int .i64 z1),.lit (.string z2),.lit (.int .i64 0),.lit (.int .i64 0),.lit (.bool z3)]),(12,.lit (.int .i64 z4)),(13,.box [.lit (.int .i64 a9.Kind),.lit (.int .i64 a9.Num),.lit (.string a9.Str)])] (Lv env 21 Tryz.f21 3 res φ)
def L5 (x0:List api_Row) (x1 x2:Int) (z0 z1:Int) (z2:ByteArray) (z3:Bool) (z4:Int) (φ:drossref51_Result→Prop):Prop:=Pt env 21 W B [1,1,1,1,0,1,0,0,1,1] [(0,.sl (x0.map enc_api_Row)),(1,.lit (.int .i64 x1)),(2,.lit (.int .i64 x2)),(6,.box [.lit (.int .i64 0),.lit (.int .i64 0),.lit (.string ((⟨#[]⟩:ByteArray))),.lit (.int .i64 0),.lit (.int .i64 0),.lit (.bool false)]),(11,.box [.lit (.int .i64 z0),.lit (.int .i64 z1),.lit (.string z2),.lit (.int .i64 0),.lit (.int .i64 0),.lit (.bool z3)]),(12,.lit (.int .i64 z4))] (Lv env 21 Tryz.f21 3 res φ)
theorem L1_step (x0:List api_Row) (x2 z0:Int) (z1 z2:Int) (φ:drossref51_Result→Prop) (h :
 (if z2<(x0.length:Int) then
 ∃ a1,lget x0 z2=some a1 ∧
 ∃ a3,lget a1.Values x2=some a3 ∧
 (if a3.Kind=1 then
 ∃ r5:drossref51_Total,drossref51_add.C ((⟨z0,z1⟩:drossref51_Total)) a3.Num r5 ∧
 drossref51_Of.L3 x0 x2 r5.High r5.Low z2 φ
 else
 drossref51_Of.L3 x0 x2 z0 z1 z2 φ)
 else
 ∃ r6:Bool,drossref51_fits.C ((⟨z0,z1⟩:drossref51_Total)) r6 ∧
 (if r6=true then
 φ ((⟨(⟨1,(IntKind.wrap .i64 ((shlw .i64 z0 32)+z1)),(⟨#[]⟩:ByteArray)⟩:api_Value),(⟨z0,z1⟩:drossref51_Total),true⟩:drossref51_Result))
 else
 φ ((⟨(⟨1,0,(⟨#[]⟩:ByteArray)⟩:api_Value),(⟨z0,z1⟩:drossref51_Total),true⟩:drossref51_Result))))):L1 x0 x2 z0 z1 z2 φ:=
 mIn <|
 mLen 4 enc_api_Row x0 <|
 mAsk 0 h dT dF (fun h=>
 mIx 6 enc_api_Row h fun a1 h2 h=>
 mIx 3 enc_api_Value h fun a3 h4 h=>
 mAsk 7 h beq_t beq_f (fun h=>
 mCal 6 h (fun _ h=>h) (hf:=(fun _=>clF_flat (flat_agg (flts_cons rfl (flts_cons rfl flts_nil))) rfl)) fun r5 _ h=>
 mFin 2 h) fun h=>
 mFin 3 h) fun h=>
 mCalB 12 h (fun _ h=>h) (fun _ h=>
 mRet 17 h) fun _ h=>
 mRet 7 h
theorem L2_step (x0:List api_Row) (x1 x2:Int) (z0 z1:Int) (z2:ByteArray) (z3:Bool) (z4:Int) (φ:drossref51_Result→Prop) (h :
 (if z4<(x0.length:Int) then
 ∃ a7,lget x0 z4=some a7 ∧
 ∃ a9,lget a7.Values x2=some a9 ∧
 ∃ r11:Int,drossref01_Compare.C a9 ((⟨z0,z1,z2⟩:api_Value)) r11 ∧
 (if z4=0 then
 drossref51_Of.L4 x0 x1 x2 z0 z1 z2 z3 z4 a9 φ
 else
 (if x1=3 then
 (if r11<0 then
 drossref51_Of.L4 x0 x1 x2 z0 z1 z2 z3 z4 a9 φ
 else
 (if x1=4 then
 (if 0<r11 then
 drossref51_Of.L4 x0 x1 x2 z0 z1 z2 z3 z4 a9 φ
 else
 drossref51_Of.L5 x0 x1 x2 z0 z1 z2 z3 z4 φ)
 else
 drossref51_Of.L5 x0 x1 x2 z0 z1 z2 z3 z4 φ))
 else
 (if x1=4 then
 (if 0<r11 then
 drossref51_Of.L4 x0 x1 x2 z0 z1 z2 z3 z4 a9 φ
 else
 drossref51_Of.L5 x0 x1 x2 z0 z1 z2 z3 z4 φ)
 else
 drossref51_Of.L5 x0 x1 x2 z0 z1 z2 z3 z4 φ)))
 else
 φ ((⟨(⟨z0,z1,z2⟩:api_Value),(⟨0,0⟩:drossref51_Total),z3⟩:drossref51_Result)))):L2 x0 x1 x2 z0 z1 z2 z3 z4 φ:=
 mIn <|
 mLen 4 enc_api_Row x0 <|
 mAsk 0 h dT dF (fun h=>
 mIx 6 enc_api_Row h fun a7 h8 h=>
 mIx 3 enc_api_Value h fun a9 h10 h=>
 mCal 8 h (fun _ h=>h) fun r11 _ h=>
 mAsk 4 h beq_t beq_f (fun h=>
 mFin 18 h) fun h=>
 mAsk 2 h beq_t beq_f (fun h=>
 mAsk 2 h dT dF (fun h=>
 mFin 12 h) fun h=>
 mAsk 4 h beq_t beq_f (fun h=>
 mAsk 2 h dT dF (fun h=>
 mFin 4 h) fun h=>
 mFin 5 h) fun h=>
 mFin 8 h) fun h=>
 mAsk 7 h beq_t beq_f (fun h=>
 mAsk 2 h dT dF (fun h=>
 mFin 4 h) fun h=>
 mFin 5 h) fun h=>
 mFin 8 h) fun h=>
 mRet 7 h
theorem L3_step (x0:List api_Row) (x2 z0:Int) (z1 z2:Int) (φ:drossref51_Result→Prop) (h :
 drossref51_Of.L1 x0 x2 z0 z1 ((IntKind.wrap .i64 (z2+1))) φ):L3 x0 x2 z0 z1 z2 φ:=
 mIn <|
 mFin 5 h
theorem L4_step (x0:List api_Row) (x1 x2:Int) (z0 z1:Int) (z2:ByteArray) (z3:Bool) (z4:Int) (a9:api_Value) (φ:drossref51_Result→Prop) (h :
 drossref51_Of.L5 x0 x1 x2 a9.Kind a9.Num a9.Str true z4 φ):L4 x0 x1 x2 z0 z1 z2 z3 z4 a9 φ:=
 mIn <|
 mFin 5 h
theorem L5_step (x0:List api_Row) (x1 x2:Int) (z0 z1:Int) (z2:ByteArray) (z3:Bool) (z4:Int) (φ:drossref51_Result→Prop) (h :
 drossref51_Of.L2 x0 x1 x2 z0 z1 z2 z3 ((IntKind.wrap .i64 (z4+1))) φ):L5 x0 x1 x2 z0 z1 z2 z3 z4 φ:=
 mIn <|
 mFin 5 h
theorem enter (x0:List api_Row) (x1 x2:Int) (φ:drossref51_Result→Prop) (h :
 (if x1=1 then
 φ ((⟨(⟨1,(x0.length:Int),(⟨#[]⟩:ByteArray)⟩:api_Value),(⟨0,0⟩:drossref51_Total),true⟩:drossref51_Result))
 else
 (if x1=2 then
 drossref51_Of.L1 x0 x2 0 0 0 φ
 else
 drossref51_Of.L2 x0 x1 x2 0 0 ((⟨#[]⟩:ByteArray)) false 0 φ))):∃ r,φ r∧C x0 x1 x2 r:=
 mEnt (fd:=Tryz.f21) (body:=B) (V:=W) (res:=res) <|
 mAsk 5 h beq_t beq_f (fun h=>
 mLen 4 enc_api_Row x0 <|
 mRet 4 h) fun h=>
 mAsk 5 h beq_t beq_f (fun h=>
 mFin 8 h) fun h=>
 mFin 9 h
end drossref51_Of
end Go.Own
namespace Go.Own
open Go.Proofs D
set_option maxRecDepth 100000
set_option maxHeartbeats 4000000
namespace drossref51_satisfies
noncomputable def B:Code:=(Tryz.f43.body).getD .skip
def W:List Nat:=[0,1,2,4,5,6,7,11,76]
def res (r:Bool):D×List D:=(.lit (.bool r),[])
def C (x0:api_Row) (x1:List api_Condition) (r:Bool):Prop:=Ret env 43 [.agg [.lit (.int .i64 x0.ID),.sl (x0.Values.map enc_api_Value)],.sl (x1.map enc_api_Condition)] (res r).1 (res r).2
def L1 (x0:api_Row) (x1:List api_Condition) (z0:Int) (φ:Bool→Prop):Prop:=Pt env 43 W B [1,0,1,0] [(0,.agg [.lit (.int .i64 x0.ID),.sl (x0.Values.map enc_api_Value)]),(1,.sl (x1.map enc_api_Condition)),(2,.box [.lit (.int .i64 x0.ID),.sl (x0.Values.map enc_api_Value)]),(5,.lit (.int .i64 z0))] (Lv env 43 Tryz.f43 2 res φ)
def L2 (x0:api_Row) (x1:List api_Condition) (z0:Int) (z1:Bool) (φ:Bool→Prop):Prop:=Pt env 43 W B [1,0,1,0,0,1,0,0,1,1,0] [(0,.agg [.lit (.int .i64 x0.ID),.sl (x0.Values.map enc_api_Value)]),(1,.sl (x1.map enc_api_Condition)),(2,.box [.lit (.int .i64 x0.ID),.sl (x0.Values.map enc_api_Value)]),(5,.lit (.int .i64 z0)),(7,.lit (.bool z1))] (Lv env 43 Tryz.f43 2 res φ)
theorem L1_step (x0:api_Row) (x1:List api_Condition) (z0:Int) (φ:Bool→Prop) (h :
 (if z0<(x1.length:Int) then
 ∃ a1,lget x1 z0=some a1 ∧
 ∃ a3,lget x0.Values a1.Attr=some a3 ∧
 ∃ r5:Int,drossref01_Compare.C a3 a1.Value r5 ∧
 (if a1.Op=1 then
 (if r5=0 then
 drossref51_satisfies.L2 x0 x1 z0 true φ
 else
 (if a1.Op=2 then
 (if r5=0 then
 (if a1.Op=3 then
 (if r5<0 then
 drossref51_satisfies.L2 x0 x1 z0 true φ
 else
 (if a1.Op=4 then
 drossref51_satisfies.L2 x0 x1 z0 ((decide (r5≤0))) φ
 else
 drossref51_satisfies.L2 x0 x1 z0 false φ))
 else
 (if a1.Op=4 then
 drossref51_satisfies.L2 x0 x1 z0 ((decide (r5≤0))) φ
 else
 drossref51_satisfies.L2 x0 x1 z0 false φ))
 else
 drossref51_satisfies.L2 x0 x1 z0 true φ)
 else
 (if a1.Op=3 then
 (if r5<0 then
 drossref51_satisfies.L2 x0 x1 z0 true φ
 else
 (if a1.Op=4 then
 drossref51_satisfies.L2 x0 x1 z0 ((decide (r5≤0))) φ
 else
 drossref51_satisfies.L2 x0 x1 z0 false φ))
 else
 (if a1.Op=4 then
 drossref51_satisfies.L2 x0 x1 z0 ((decide (r5≤0))) φ
 else
 drossref51_satisfies.L2 x0 x1 z0 false φ))))
 else
 (if a1.Op=2 then
 (if r5=0 then
 (if a1.Op=3 then
 (if r5<0 then
 drossref51_satisfies.L2 x0 x1 z0 true φ
 else
 (if a1.Op=4 then
 drossref51_satisfies.L2 x0 x1 z0 ((decide (r5≤0))) φ
 else
 drossref51_satisfies.L2 x0 x1 z0 false φ))
 else
 (if a1.Op=4 then
 drossref51_satisfies.L2 x0 x1 z0 ((decide (r5≤0))) φ
 else
 drossref51_satisfies.L2 x0 x1 z0 false φ))
 else
 drossref51_satisfies.L2 x0 x1 z0 true φ)
 else
 (if a1.Op=3 then
 (if r5<0 then
 drossref51_satisfies.L2 x0 x1 z0 true φ
 else
 (if a1.Op=4 then
 drossref51_satisfies.L2 x0 x1 z0 ((decide (r5≤0))) φ
 else
 drossref51_satisfies.L2 x0 x1 z0 false φ))
 else
 (if a1.Op=4 then
 drossref51_satisfies.L2 x0 x1 z0 ((decide (r5≤0))) φ
 else
 drossref51_satisfies.L2 x0 x1 z0 false φ))))
 else
 φ true)):L1 x0 x1 z0 φ:=
 mIn <|
 mLen 4 enc_api_Condition x1 <|
 mAsk 0 h dT dF (fun h=>
 mIx 8 enc_api_Condition h fun a1 h2 h=>
 mIx 2 enc_api_Value h fun a3 h4 h=>
 mIxf 3 enc_api_Condition h2 <|
 mCal 2 h (fun _ h=>h) fun r5 _ h=>
 mIxf 5 enc_api_Condition h2 <|
 mAsk 2 h beq_t beq_f (fun h=>
 mAsk 2 h beq_t beq_f (fun h=>
 mFin 39 h) fun h=>
 mIxf 4 enc_api_Condition h2 <|
 mAsk 2 h beq_t beq_f (fun h=>
 mAskN 2 h bne_t bne_f (fun h=>
 mFin 28 h) fun h=>
 mIxf 5 enc_api_Condition h2 <|
 mAsk 2 h beq_t beq_f (fun h=>
 mAsk 2 h dT dF (fun h=>
 mFin 16 h) fun h=>
 mIxf 5 enc_api_Condition h2 <|
 mAsk 2 h beq_t beq_f (fun h=>
 mFin 7 h) fun h=>
 mFin 7 h) fun h=>
 mIxf 8 enc_api_Condition h2 <|
 mAsk 2 h beq_t beq_f (fun h=>
 mFin 7 h) fun h=>
 mFin 7 h) fun h=>
 mIxf 8 enc_api_Condition h2 <|
 mAsk 2 h beq_t beq_f (fun h=>
 mAsk 2 h dT dF (fun h=>
 mFin 16 h) fun h=>
 mIxf 5 enc_api_Condition h2 <|
 mAsk 2 h beq_t beq_f (fun h=>
 mFin 7 h) fun h=>
 mFin 7 h) fun h=>
 mIxf 8 enc_api_Condition h2 <|
 mAsk 2 h beq_t beq_f (fun h=>
 mFin 7 h) fun h=>
 mFin 7 h) fun h=>
 mIxf 7 enc_api_Condition h2 <|
 mAsk 2 h beq_t beq_f (fun h=>
 mAskN 2 h bne_t bne_f (fun h=>
 mFin 28 h) fun h=>
 mIxf 5 enc_api_Condition h2 <|
 mAsk 2 h beq_t beq_f (fun h=>
 mAsk 2 h dT dF (fun h=>
 mFin 16 h) fun h=>
 mIxf 5 enc_api_Condition h2 <|
 mAsk 2 h beq_t beq_f (fun h=>
 mFin 7 h) fun h=>
 mFin 7 h) fun h=>
 mIxf 8 enc_api_Condition h2 <|
 mAsk 2 h beq_t beq_f (fun h=>
 mFin 7 h) fun h=>
 mFin 7 h) fun h=>
 mIxf 8 enc_api_Condition h2 <|
 mAsk 2 h beq_t beq_f (fun h=>
 mAsk 2 h dT dF (fun h=>
 mFin 16 h) fun h=>
 mIxf 5 enc_api_Condition h2 <|
 mAsk 2 h beq_t beq_f (fun h=>
 mFin 7 h) fun h=>
 mFin 7 h) fun h=>
 mIxf 8 enc_api_Condition h2 <|
 mAsk 2 h beq_t beq_f (fun h=>
 mFin 7 h) fun h=>
 mFin 7 h) fun h=>
 mRet 6 h
theorem L2_step (x0:api_Row) (x1:List api_Condition) (z0:Int) (z1:Bool) (φ:Bool→Prop) (h :
 (if z1=true then
 drossref51_satisfies.L1 x0 x1 ((IntKind.wrap .i64 (z0+1))) φ
 else
 φ false)):L2 x0 x1 z0 z1 φ:=
 mIn <|
 mAsk 1 h id fls (fun h=>
 mFin 9 h) fun h=>
 mRet 6 h
theorem enter (x0:api_Row) (x1:List api_Condition) (φ:Bool→Prop) (h :
 drossref51_satisfies.L1 x0 x1 0 φ):∃ r,φ r∧C x0 x1 r:=
 mEnt (fd:=Tryz.f43) (body:=B) (V:=W) (res:=res) <|
 mFin 7 h
end drossref51_satisfies
end Go.Own
namespace Go.Own
open Go.Proofs D
set_option maxRecDepth 100000
set_option maxHeartbeats 4000000
namespace drossref51_Rows
noncomputable def B:Code:=(Tryz.f25.body).getD .skip
def W:List Nat:=[0,1,2,4,5,6,11,20]
def res (r:List api_Row):D×List D:=(.own (r.map enc_api_Row),[])
def C (x0:api_Table) (x1:List api_Condition) (r:List api_Row):Prop:=Ret env 25 [.agg [.lit (.string x0.Name),.sl (x0.Attrs.map eS),.sl (x0.Rows.map enc_api_Row)],.sl (x1.map enc_api_Condition)] (res r).1 (res r).2
def L1 (x0:api_Table) (x1:List api_Condition) (z0:List api_Row) (z1:Int) (φ:List api_Row→Prop):Prop:=Pt env 25 W B [1,1,0,1,0] [(0,.agg [.lit (.string x0.Name),.sl (x0.Attrs.map eS),.sl (x0.Rows.map enc_api_Row)]),(1,.sl (x1.map enc_api_Condition)),(2,.box [.lit (.string x0.Name),.sl (x0.Attrs.map eS),.sl (x0.Rows.map enc_api_Row)]),(5,.own (z0.map enc_api_Row)),(6,.lit (.int .i64 z1))] (Lv env 25 Tryz.f25 2 res φ)
def L2 (x0:api_Table) (x1:List api_Condition) (z0:List api_Row) (z1:Int) (φ:List api_Row→Prop):Prop:=Pt env 25 W B [1,1,0,1,0,0,1,1] [(0,.agg [.lit (.string x0.Name),.sl (x0.Attrs.map eS),.sl (x0.Rows.map enc_api_Row)]),(1,.sl (x1.map enc_api_Condition)),(2,.box [.lit (.string x0.Name),.sl (x0.Attrs.map eS),.sl (x0.Rows.map enc_api_Row)]),(5,.own (z0.map enc_api_Row)),(6,.lit (.int .i64 z1))] (Lv env 25 Tryz.f25 2 res φ)
theorem L1_step (x0:api_Table) (x1:List api_Condition) (z0:List api_Row) (z1:Int) (φ:List api_Row→Prop) (h :
 (if z1<(x0.Rows.length:Int) then
 ∃ a1,lget x0.Rows z1=some a1 ∧
 ∃ r3:Bool,drossref51_satisfies.C a1 x1 r3 ∧
 (if r3=true then
 (z0.length+1)*32≤140737488355328 ∧
 drossref51_Rows.L2 x0 x1 ((z0++[a1])) z1 φ
 else
 drossref51_Rows.L2 x0 x1 z0 z1 φ)
 else
 φ z0)):L1 x0 x1 z0 z1 φ:=
 mIn <|
 mLen 5 enc_api_Row x0.Rows <|
 mAsk 0 h dT dF (fun h=>
 mIx 7 enc_api_Row h fun a1 h2 h=>
 mCalB 2 h (fun _ h=>h) (fun _ h=>
 mIxf 7 enc_api_Row h2 <|
 mApp 2 enc_api_Row z0 ([a1]) h fun h=>
 mFin 2 h) fun _ h=>
 mFin 3 h) fun h=>
 mRet 7 h
theorem L2_step (x0:api_Table) (x1:List api_Condition) (z0:List api_Row) (z1:Int) (φ:List api_Row→Prop) (h :
 drossref51_Rows.L1 x0 x1 z0 ((IntKind.wrap .i64 (z1+1))) φ):L2 x0 x1 z0 z1 φ:=
 mIn <|
 mFin 5 h
theorem enter (x0:api_Table) (x1:List api_Condition) (φ:List api_Row→Prop) (h :
 drossref51_Rows.L1 x0 x1 ([]) 0 φ):∃ r,φ r∧C x0 x1 r:=
 mEnt (fd:=Tryz.f25) (body:=B) (V:=W) (res:=res) <|
 mFin 10 h
end drossref51_Rows
end Go.Own
namespace Go.Own
open Go.Proofs D
set_option maxRecDepth 100000
set_option maxHeartbeats 4000000
namespace drossref51_Value
noncomputable def B:Code:=(Tryz.f10.body).getD .skip
def W:List Nat:=[0,1,2,3,4,8,9,10,11,18,30]
def res (r:drossref51_Result×Int):D×List D:=(.tup [.agg [.lit (.int .i64 r.1.Value.Kind),.lit (.int .i64 r.1.Value.Num),.lit (.string r.1.Value.Str),.lit (.int .i64 r.1.Sum.High),.lit (.int .i64 r.1.Sum.Low),.lit (.bool r.1.OK)],.lit (.int .i64 r.2)],[])
def C (x0:api_Table) (x1:List api_Condition) (x2 x3:Int) (r:drossref51_Result×Int):Prop:=Ret env 10 [.agg [.lit (.string x0.Name),.sl (x0.Attrs.map eS),.sl (x0.Rows.map enc_api_Row)],.sl (x1.map enc_api_Condition),.lit (.int .i64 x2),.lit (.int .i64 x3)] (res r).1 (res r).2
theorem enter (x0:api_Table) (x1:List api_Condition) (x2 x3:Int) (φ:drossref51_Result×Int→Prop) (h :
 ∃ r1:Int,drossref51_Error.C x0 0 x1 x2 x3 r1 ∧
 (if r1=0 then
 ∃ r2:List api_Row,drossref51_Rows.C x0 x1 r2 ∧
 ∃ r3:drossref51_Result,drossref51_Of.C r2 x2 x3 r3 ∧
 ∃ r4:Bool,drossref51_fits.C r3.Sum r4 ∧
 (if r4=true then
 φ ((r3,0))
 else
 φ (((⟨(⟨0,0,(⟨#[]⟩:ByteArray)⟩:api_Value),(⟨0,0⟩:drossref51_Total),false⟩:drossref51_Result),7)))
 else
 φ (((⟨(⟨0,0,(⟨#[]⟩:ByteArray)⟩:api_Value),(⟨0,0⟩:drossref51_Total),false⟩:drossref51_Result),r1)))):∃ r,φ r∧C x0 x1 x2 x3 r:=
 mEnt (fd:=Tryz.f10) (body:=B) (V:=W) (res:=res) <|
 mCal 10 h (fun _ h=>h) fun r1 _ h=>
 mAskN 4 h bne_t bne_f (fun h=>
 mRet 8 h) fun h=>
 mCal 6 h (fun _ h=>h) (hf:=(fun _=>clF_both)) fun r2 _ h=>
 mCal 2 h (fun _ h=>h) (hr:=by exact (pr_snap (snap_ow (s:=23) (ps:=[]) (l:=r2) (e:=enc_api_Row) (e':=enc_api_Row) (fun _=>rfl) (by kernel_rfl)) (pr_k (pr_k pr_nil)))) (hf:=(fun _=>clF_flat (flat_agg (flts_cons rfl (flts_cons rfl (flts_cons rfl (flts_cons rfl (flts_cons rfl (flts_cons rfl flts_nil))))))) rfl)) fun r3 _ h=>
 mCalB 6 h (fun _ h=>h) (fun _ h=>
 mRet 9 h) fun _ h=>
 mRet 8 h
end drossref51_Value
end Go.Own
namespace Go.Own
open Go.Proofs D
set_option maxRecDepth 100000
set_option maxHeartbeats 4000000
namespace aggregate_text
noncomputable def B:Code:=(Tryz.f48.body).getD .skip
def W:List Nat:=[0,1,2,4,5,6,7,8,9,11,12,13,14,22]
def res (r:ByteArray):D×List D:=(.lit (.string r),[])
def C (x0:api_Row) (x1:Int) (r:ByteArray):Prop:=Ret env 48 [.agg [.lit (.int .i64 x0.ID),.sl (x0.Values.map enc_api_Value)],.lit (.int .u32 x1)] (res r).1 (res r).2
def L1 (x0:api_Row) (x1:Int) (z0:List UInt8) (z1:Int) (φ:ByteArray→Prop):Prop:=Pt env 48 W B [1,1,0,1,0] [(0,.agg [.lit (.int .i64 x0.ID),.sl (x0.Values.map enc_api_Value)]),(1,.lit (.int .u32 x1)),(2,.box [.lit (.int .i64 x0.ID),.sl (x0.Values.map enc_api_Value)]),(5,.bld 135 5 z0),(11,.sl (x0.Values.map enc_api_Value)),(12,.lit (.int .i64 ((x0.Values.length:Int)))),(13,.lit (.int .i64 z1))] (Lv env 48 Tryz.f48 2 res φ)
def L2 (x0:api_Row) (x1:Int) (z0:List UInt8) (z1:Int) (φ:ByteArray→Prop):Prop:=Pt env 48 W B [1,1,0,1,0,0,1,1,1] [(0,.agg [.lit (.int .i64 x0.ID),.sl (x0.Values.map enc_api_Value)]),(1,.lit (.int .u32 x1)),(2,.box [.lit (.int .i64 x0.ID),.sl (x0.Values.map enc_api_Value)]),(5,.bld 135 5 z0),(11,.sl (x0.Values.map enc_api_Value)),(12,.lit (.int .i64 ((x0.Values.length:Int)))),(13,.lit (.int .i64 z1))] (Lv env 48 Tryz.f48 2 res φ)
theorem L1_step (x0:api_Row) (x1:Int) (z0:List UInt8) (z1:Int) (φ:ByteArray→Prop) (h :
 (if z1<(x0.Values.length:Int) then
 ∃ a1,lget x0.Values z1=some a1 ∧
 0≤z1 ∧
 (if (bAnd .u32 (shrw .u32 x1 z1) 1)=1 then
 ∃ r4:ByteArray×Int,value_Key.C a1 r4 ∧
 z0.length+r4.1.size≤140737488355328 ∧
 aggregate_text.L2 x0 x1 ((z0++r4.1.data.toList)) z1 φ
 else
 aggregate_text.L2 x0 x1 z0 z1 φ)
 else
 φ ((bstr z0)))):L1 x0 x1 z0 z1 φ:=
 mIn <|
 mAsk 2 h dT dF (fun h=>
 mIx 5 enc_api_Value h fun a1 h2 h=>
 h.elim fun h3 h=>
 mBi 8 (bin_shr (t:=27) (q:=.u32) (q':=.i64) (i1:=x1) h3) <|
 mAsk 1 h beq_t beq_f (fun h=>
 mCal 4 h (fun _ h=>h) (hf:=(fun _=>clF_flat (flat_tup (flts_cons rfl (flts_cons rfl flts_nil))) rfl)) fun r4 _ h=>
 h.elim fun h5 h=>
 mCalP 8 (show Ret env 76 [.bld 135 5 z0,.lit (.string r4.1)] (.tup [.lit (.int .i64 ((bsize r4.1))),.lit .nilIface]) [.bld 135 5 ((z0++r4.1.data.toList))] from ret_write (by kernel_rfl) h5) <|
 mFin 1 h) fun h=>
 mFin 3 h) fun h=>
 mCalP 4 (show Ret env 77 [.bld 135 5 z0] (.lit (.string ((bstr z0)))) [.box [.undef,.undef]] from ret_string (by kernel_rfl)) <|
 mRet 2 h
theorem L2_step (x0:api_Row) (x1:Int) (z0:List UInt8) (z1:Int) (φ:ByteArray→Prop) (h :
 aggregate_text.L1 x0 x1 z0 ((IntKind.wrap .i64 (z1+1))) φ):L2 x0 x1 z0 z1 φ:=
 mIn <|
 mFin 4 h
theorem enter (x0:api_Row) (x1:Int) (φ:ByteArray→Prop) (h :
 aggregate_text.L1 x0 x1 ([]) 0 φ):∃ r,φ r∧C x0 x1 r:=
 mEnt (fd:=Tryz.f48) (body:=B) (V:=W) (res:=res) <|
 mLen 10 enc_api_Value x0.Values <|
 mFin 2 h
end aggregate_text
end Go.Own
namespace Go.Own
open Go.Proofs D
set_option maxRecDepth 100000
set_option maxHeartbeats 4000000
namespace aggregate_total_normal
noncomputable def B:Code:=(Tryz.f79.body).getD .skip
def W:List Nat:=[0,1,2]
def res (r:aggregate_total):D×List D:=(.agg [.lit (.int .i64 r.high),.lit (.int .i64 r.low)],[])
def C (x0 r:aggregate_total):Prop:=Ret env 79 [.agg [.lit (.int .i64 x0.high),.lit (.int .i64 x0.low)]] (res r).1 (res r).2
theorem enter (x0:aggregate_total) (φ:aggregate_total→Prop) (h :
 φ ((⟨(IntKind.wrap .i64 (x0.high+(shrw .i64 x0.low 32))),(bAnd .i64 x0.low 4294967295)⟩:aggregate_total))):∃ r,φ r∧C x0 r:=
 mEnt (fd:=Tryz.f79) (body:=B) (V:=W) (res:=res) <|
 mRet 17 h
end aggregate_total_normal
end Go.Own
namespace Go.Own
open Go.Proofs D
set_option maxRecDepth 100000
set_option maxHeartbeats 4000000
namespace aggregate_total_plus
noncomputable def B:Code:=(Tryz.f50.body).getD .skip
def W:List Nat:=[0,1,2,3,6]
def res (r:aggregate_total):D×List D:=(.agg [.lit (.int .i64 r.high),.lit (.int .i64 r.low)],[])
def C (x0:aggregate_total) (x1 x2:Int) (r:aggregate_total):Prop:=Ret env 50 [.agg [.lit (.int .i64 x0.high),.lit (.int .i64 x0.low)],.lit (.int .i64 x1),.lit (.int .i64 x2)] (res r).1 (res r).2
theorem enter (x0:aggregate_total) (x1 x2:Int) (φ:aggregate_total→Prop) (h :
 ∃ r1:aggregate_total,aggregate_total_normal.C ((⟨(IntKind.wrap .i64 (x0.high+(IntKind.wrap .i64 ((shrw .i64 x1 32)*x2)))),(IntKind.wrap .i64 (x0.low+(IntKind.wrap .i64 ((bAnd .i64 x1 4294967295)*x2))))⟩:aggregate_total)) r1 ∧
 φ r1):∃ r,φ r∧C x0 x1 x2 r:=
 mEnt (fd:=Tryz.f50) (body:=B) (V:=W) (res:=res) <|
 mCal 20 h (fun _ h=>h) (hf:=(fun _=>clF_flat (flat_agg (flts_cons rfl (flts_cons rfl flts_nil))) rfl)) fun r1 _ h=>
 mRet 2 h
end aggregate_total_plus
end Go.Own
namespace Go.Own
open Go.Proofs D
set_option maxRecDepth 100000
set_option maxHeartbeats 4000000
namespace aggregate_groups
noncomputable def B:Code:=(Tryz.f29.body).getD .skip
def W:List Nat:=[0,1,2,3,4,5,10,11,12,13,15,16,17,18,19,20,21,22,23,24,28,29,30,31,46,64,111,112,121,131,140]
def res (r:List (List aggregate_group)):D×List D:=(.own (r.map (eOw enc_aggregate_group)),[])
def C (x0:api_Table) (x1:Int) (x2:List api_Condition) (x3 x4:Int) (r:List (List aggregate_group)):Prop:=Ret env 29 [.agg [.lit (.string x0.Name),.sl (x0.Attrs.map eS),.sl (x0.Rows.map enc_api_Row)],.lit (.int .u32 x1),.sl (x2.map enc_api_Condition),.lit (.int .i64 x3),.lit (.int .i64 x4)] (res r).1 (res r).2
def L1 (x0:api_Table) (x1:Int) (x2:List api_Condition) (x3 x4:Int) (z0:List (List aggregate_group)) (z1:List (ByteArray×Int)) (z2:List (ByteArray×(Int×Int))) (z3:Int) (φ:List (List aggregate_group)→Prop):Prop:=Pt env 29 W B [1,1,1,0,1,0] [(0,.agg [.lit (.string x0.Name),.sl (x0.Attrs.map eS),.sl (x0.Rows.map enc_api_Row)]),(1,.lit (.int .u32 x1)),(2,.sl (x2.map enc_api_Condition)),(3,.lit (.int .i64 x3)),(4,.lit (.int .i64 x4)),(5,.box [.lit (.string x0.Name),.sl (x0.Attrs.map eS),.sl (x0.Rows.map enc_api_Row)]),(11,.own (z0.map (eOw enc_aggregate_group))),(12,(eMap Value.string (fun (x:Int)=>D.lit (.int .i64 x)) z1)),(13,(eMap Value.string (fun (x:(Int×Int))=>D.agg [.lit (.int .i64 x.1),.lit (.int .i64 x.2)]) z2)),(28,.sl (x0.Rows.map enc_api_Row)),(29,.lit (.int .i64 ((x0.Rows.length:Int)))),(30,.lit (.int .i64 z3))] (Lv env 29 Tryz.f29 5 res φ)
def L4 (x0:api_Table) (x1:Int) (x2:List api_Condition) (x3 x4:Int) (z0:List (List aggregate_group)) (z1:List (ByteArray×Int)) (z2:List (ByteArray×(Int×Int))) (a1:api_Row) (r3 r4:ByteArray) (z3:Int) (φ:List (List aggregate_group)→Prop):Prop:=Pt env 29 W B [1,1,1,0,1,0,0,1,1,0,0,1,1,1,0] [(0,.agg [.lit (.string x0.Name),.sl (x0.Attrs.map eS),.sl (x0.Rows.map enc_api_Row)]),(1,.lit (.int .u32 x1)),(2,.sl (x2.map enc_api_Condition)),(3,.lit (.int .i64 x3)),(4,.lit (.int .i64 x4)),(5,.box [.lit (.string x0.Name),.sl (x0.Attrs.map eS),.sl (x0.Rows.map enc_api_Row)]),(11,.own (z0.map (eOw enc_aggregate_group))),(12,(eMap Value.string (fun (x:Int)=>D.lit (.int .i64 x)) z1)),(13,(eMap Value.string (fun (x:(Int×Int))=>D.agg [.lit (.int .i64 x.1),.lit (.int .i64 x.2)]) z2)),(15,.box [.lit (.int .i64 a1.ID),.sl (a1.Values.map enc_api_Value)]),(16,.lit (.string r3)),(17,.lit (.string r4)),(28,.sl (x0.Rows.map enc_api_Row)),(29,.lit (.int .i64 ((x0.Rows.length:Int)))),(30,.lit (.int .i64 z3))] (Lv env 29 Tryz.f29 5 res φ)
def L3 (x0:api_Table) (x1:Int) (x2:List api_Condition) (x3 x4:Int) (z0:List (List aggregate_group)) (z1:List (ByteArray×Int)) (z2:List (ByteArray×(Int×Int))) (a1:api_Row) (r4:ByteArray) (z3 z4:Int) (φ:List (List aggregate_group)→Prop):Prop:=Pt env 29 W B [1,1,1,0,1,0,0,1,1,0,0,1,1,1,1,1,0] [(0,.agg [.lit (.string x0.Name),.sl (x0.Attrs.map eS),.sl (x0.Rows.map enc_api_Row)]),(1,.lit (.int .u32 x1)),(2,.sl (x2.map enc_api_Condition)),(3,.lit (.int .i64 x3)),(4,.lit (.int .i64 x4)),(5,.box [.lit (.string x0.Name),.sl (x0.Attrs.map eS),.sl (x0.Rows.map enc_api_Row)]),(11,.own (z0.map (eOw enc_aggregate_group))),(12,(eMap Value.string (fun (x:Int)=>D.lit (.int .i64 x)) z1)),(13,(eMap Value.string (fun (x:(Int×Int))=>D.agg [.lit (.int .i64 x.1),.lit (.int .i64 x.2)]) z2)),(15,.box [.lit (.int .i64 a1.ID),.sl (a1.Values.map enc_api_Value)]),(17,.lit (.string r4)),(20,.lit (.int .i64 z3)),(28,.sl (x0.Rows.map enc_api_Row)),(29,.lit (.int .i64 ((x0.Rows.length:Int)))),(30,.lit (.int .i64 z4))] (Lv env 29 Tryz.f29 5 res φ)
def L2 (x0:api_Table) (x1:Int) (x2:List api_Condition) (x3 x4:Int) (z0:List (List aggregate_group)) (z1:List (ByteArray×Int)) (z2:List (ByteArray×(Int×Int))) (z3:Int) (φ:List (List aggregate_group)→Prop):Prop:=Pt env 29 W B [1,1,1,0,1,0,0,1,1,1] [(0,.agg [.lit (.string x0.Name),.sl (x0.Attrs.map eS),.sl (x0.Rows.map enc_api_Row)]),(1,.lit (.int .u32 x1)),(2,.sl (x2.map enc_api_Condition)),(3,.lit (.int .i64 x3)),(4,.lit (.int .i64 x4)),(5,.box [.lit (.string x0.Name),.sl (x0.Attrs.map eS),.sl (x0.Rows.map enc_api_Row)]),(11,.own (z0.map (eOw enc_aggregate_group))),(12,(eMap Value.string (fun (x:Int)=>D.lit (.int .i64 x)) z1)),(13,(eMap Value.string (fun (x:(Int×Int))=>D.agg [.lit (.int .i64 x.1),.lit (.int .i64 x.2)]) z2)),(28,.sl (x0.Rows.map enc_api_Row)),(29,.lit (.int .i64 ((x0.Rows.length:Int)))),(30,.lit (.int .i64 z3))] (Lv env 29 Tryz.f29 5 res φ)
theorem L1_step (x0:api_Table) (x1:Int) (x2:List api_Condition) (x3 x4:Int) (z0:List (List aggregate_group)) (z1:List (ByteArray×Int)) (z2:List (ByteArray×(Int×Int))) (z3:Int) (φ:List (List aggregate_group)→Prop) (h :
 (if z3<(x0.Rows.length:Int) then
 ∃ a1,lget x0.Rows z3=some a1 ∧
 ∃ r3:ByteArray,aggregate_text.C a1 x1 r3 ∧
 ∃ r4:ByteArray,aggregate_text.C a1 4294967295 r4 ∧
 (if (mhas r3 z1)=true then
 aggregate_groups.L4 x0 x1 x2 x3 x4 z0 z1 z2 a1 r3 r4 z3 φ
 else
 (z0.length+1)*24≤140737488355328 ∧
 aggregate_groups.L4 x0 x1 x2 x3 x4 ((z0++[[]])) ((mset r3 (z0.length:Int) z1)) z2 a1 r3 r4 z3 φ)
 else
 φ z0)):L1 x0 x1 x2 x3 x4 z0 z1 z2 z3 φ:=
 mIn <|
 mAsk 2 h dT dF (fun h=>
 mIx 4 enc_api_Row h fun a1 h2 h=>
 mLo 7 h (fun _ h=>h) fun r3 _ h=>
 mCal 1 h (fun _ h=>h) fun r4 _ h=>
 mVl 6 (val_lookup_t kb_str (fun _=>by kernel_rfl) (ek:=Value.string) (ev:=(fun (x:Int)=>D.lit (.int .i64 x))) (t:=106) (x:=(.tmp 40)) (kx:=(.tmp 41)) (s:=12) (ps:=[]) (l:=z1) (kd:=.lit (.string r3)) (kv:=r3) (kt:=9) (vt:=3) (v0:=0) (by kernel_rfl) (by kernel_rfl) (by kernel_rfl) (by kernel_rfl) (by kernel_rfl) (by kernel_rfl) (by kernel_rfl) (by kernel_rfl)) <|
 mAsk 7 h id fls (fun h=>
 mFin 4 h) fun h=>
 mLen 7 (eOw enc_aggregate_group) z0 <|
 mOp 0 (op_mapUpdate kb_str (fun _=>by kernel_rfl) (ek:=Value.string) (ev:=(fun (x:Int)=>D.lit (.int .i64 x))) (t:=106) (mx:=(.tmp 47)) (kx:=(.tmp 48)) (vx:=(.tmp 50)) (s:=12) (ps:=[]) (l:=z1) (kd:=.lit (.string r3)) (kv:=r3) (kt:=9) (vt:=3) (v:=(z0.length:Int)) (d:=.lit (.int .i64 ((z0.length:Int)))) (by kernel_rfl) (by kernel_rfl) (by kernel_rfl) (by kernel_rfl) (by kernel_rfl) (by kernel_rfl) (by kernel_rfl) (by kernel_rfl) (by kernel_rfl) (setG_eq (by kernel_rfl))) <|
 mApp 4 (eOw enc_aggregate_group) z0 ([[]]) h fun h=>
 mFin 2 h) fun h=>
 mRet 7 h
theorem L4_step (x0:api_Table) (x1:Int) (x2:List api_Condition) (x3 x4:Int) (z0:List (List aggregate_group)) (z1:List (ByteArray×Int)) (z2:List (ByteArray×(Int×Int))) (a1:api_Row) (r3 r4:ByteArray) (z3:Int) (φ:List (List aggregate_group)→Prop) (h :
 (if (mhas r4 z2)=true then
 aggregate_groups.L3 x0 x1 x2 x3 x4 z0 z1 z2 a1 r4 ((mgetD r3 z1 0)) z3 φ
 else
 ∃ a6,lget z0 ((mgetD r3 z1 0))=some a6 ∧
 ∃ r8:Bool,aggregate_satisfies.C a1 x2 r8 ∧
 (a6.length+1)*80≤140737488355328 ∧
 aggregate_groups.L3 x0 x1 x2 x3 x4 ((lset z0 (mgetD r3 z1 0) (a6++[(⟨[],r8,(⟨0,0,(⟨#[]⟩:ByteArray)⟩:api_Value),(⟨0,0⟩:aggregate_total)⟩:aggregate_group)]))) z1 ((mset r4 ⟨(mgetD r3 z1 0),(a6.length:Int)⟩ z2)) a1 r4 ((mgetD r3 z1 0)) z3 φ)):L4 x0 x1 x2 x3 x4 z0 z1 z2 a1 r3 r4 z3 φ:=
 mIn <|
 mVl 3 (val_lookup_f kb_str (fun _=>by kernel_rfl) (ek:=Value.string) (ev:=(fun (x:Int)=>D.lit (.int .i64 x))) (t:=106) (x:=(.tmp 54)) (kx:=(.tmp 55)) (s:=12) (ps:=[]) (l:=z1) (kd:=.lit (.string r3)) (kv:=r3) (kt:=9) (vt:=3) (v0:=0) (by kernel_rfl) (by kernel_rfl) (by kernel_rfl) (by kernel_rfl) (by kernel_rfl) (by kernel_rfl) (by kernel_rfl) (by kernel_rfl)) <|
 mVl 5 (val_lookup_t kb_str (fun _=>by kernel_rfl) (ek:=Value.string) (ev:=(fun (x:(Int×Int))=>D.agg [.lit (.int .i64 x.1),.lit (.int .i64 x.2)])) (t:=107) (x:=(.tmp 58)) (kx:=(.tmp 59)) (s:=13) (ps:=[]) (l:=z2) (kd:=.lit (.string r4)) (kv:=r4) (kt:=9) (vt:=110) (v0:=⟨0,0⟩) (by kernel_rfl) (by kernel_rfl) (by kernel_rfl) (by kernel_rfl) (by kernel_rfl) (by kernel_rfl) (by kernel_rfl) (by kernel_rfl)) <|
 mAsk 8 h id fls (fun h=>
 mFin 4 h) fun h=>
 mIy 9 (eOw enc_aggregate_group) h fun a6 h7 h=>
 mLd 0 (eOw enc_aggregate_group) h7 <|
 mVl 0 (val_len (x:=(.tmp 71)) (t:=79) (et:=92) (d:=.alias 11 [((((mgetD r3 z1 0)).toNat),0)]) (e:=enc_aggregate_group) (l:=a6) (by kernel_rfl) (by kernel_rfl) (elemsOf_ow (getAt_el (ps:=[]) (e:=(eOw enc_aggregate_group)) (l:=z0) (n:=(((mgetD r3 z1 0)).toNat)) (a:=a6) (c:=0) (by kernel_rfl) (lget_some h7).2 (by kernel_rfl))) (by kernel_rfl)) <|
 mOp 1 (op_mapUpdate kb_str (fun _=>by kernel_rfl) (ek:=Value.string) (ev:=(fun (x:(Int×Int))=>D.agg [.lit (.int .i64 x.1),.lit (.int .i64 x.2)])) (t:=107) (mx:=(.tmp 65)) (kx:=(.tmp 66)) (vx:=(.tmp 73)) (s:=13) (ps:=[]) (l:=z2) (kd:=.lit (.string r4)) (kv:=r4) (kt:=9) (vt:=110) (v:=⟨(mgetD r3 z1 0),(a6.length:Int)⟩) (d:=.agg [.lit (.int .i64 ((mgetD r3 z1 0))),.lit (.int .i64 ((a6.length:Int)))]) (by kernel_rfl) (by kernel_rfl) (by kernel_rfl) (by kernel_rfl) (by kernel_rfl) (by kernel_rfl) (by kernel_rfl) (by kernel_rfl) (by kernel_rfl) (setG_eq (by kernel_rfl))) <|
 mIyf 6 (eOw enc_aggregate_group) h7 <|
 mLd 0 (eOw enc_aggregate_group) h7 <|
 mLo 2 h (fun _ h=>h) fun r8 _ h=>
 h.elim fun h9 h=>
 mActL 2 (app2 (x:=(.tmp 79)) (y:=(.tmp 84)) (t:=79) (u:=79) (et:=92) (z:=.agg [.own [],.lit (.bool false),.lit (.int .i64 0),.lit (.int .i64 0),.lit (.string ((⟨#[]⟩:ByteArray))),.lit (.int .i64 0),.lit (.int .i64 0)]) (k:=7) (c:=80) (e:=enc_aggregate_group) (l:=a6) (m:=[(⟨[],r8,(⟨0,0,(⟨#[]⟩:ByteArray)⟩:api_Value),(⟨0,0⟩:aggregate_total)⟩:aggregate_group)]) (by kernel_rfl) (by kernel_rfl) (by kernel_rfl) (by kernel_rfl) (by kernel_rfl) (take_el (s:=11) (ps:=[]) (n:=(((mgetD r3 z1 0)).toNat)) (c:=0) (e:=(eOw enc_aggregate_group)) (l:=z0) (a:=a6) (by kernel_rfl) (by kernel_rfl) (lget_some h7).2 (by kernel_rfl) (by kernel_rfl) (setG_eq (by kernel_rfl))) (by kernel_rfl) (by kernel_rfl) (by kernel_rfl) (by kernel_rfl) (by kernel_rfl) (fun _=>rfl) h9) <|
 mVl 0 (val_idx_hole (s:=11) (ps:=[]) (cs:=[.undef]) (t:=77) (x:=(.tmp 74)) (ix:=(.tmp 75)) (et:=79) (k:=1) (e:=(eOw enc_aggregate_group)) (l:=z0) (i:=(mgetD r3 z1 0)) (q:=.i64) (a:=a6) (by kernel_rfl) (by kernel_rfl) (by kernel_rfl) (by kernel_rfl) (by kernel_rfl) (by kernel_rfl) h7 (by kernel_rfl)) <|
 mOp 0 (store2 (t:=79) (x:=(.tmp 86)) (y:=(.tmp 85)) (s:=11) (ps:=[]) (n:=(((mgetD r3 z1 0)).toNat)) (e:=(eOw enc_aggregate_group)) (l:=z0) (a:=a6) (b:=(a6++[(⟨[],r8,(⟨0,0,(⟨#[]⟩:ByteArray)⟩:api_Value),(⟨0,0⟩:aggregate_total)⟩:aggregate_group)])) (k:=1) (cs:=[.undef]) (d:=.own (((a6++[(⟨[],r8,(⟨0,0,(⟨#[]⟩:ByteArray)⟩:api_Value),(⟨0,0⟩:aggregate_total)⟩:aggregate_group)])).map enc_aggregate_group)) (by kernel_rfl) (by kernel_rfl) (by kernel_rfl) (by kernel_rfl) (lget_some h7).2 (by kernel_rfl) (by kernel_rfl) (by kernel_rfl) (by kernel_rfl) (by kernel_rfl) (setG_eq (by kernel_rfl))) <|
 mFin 1 h
theorem L3_step (x0:api_Table) (x1:Int) (x2:List api_Condition) (x3 x4:Int) (z0:List (List aggregate_group)) (z1:List (ByteArray×Int)) (z2:List (ByteArray×(Int×Int))) (a1:api_Row) (r4:ByteArray) (z3 z4:Int) (φ:List (List aggregate_group)→Prop) (h :
 ∃ a10,lget z0 z3=some a10 ∧
 ∃ a12,lget a10 (((mgetD r4 z2 ⟨0,0⟩)).2)=some a12 ∧
 (a12.ids.length+1)*8≤140737488355328 ∧
 (if a12.ok=true then
 (if x3=1 then
 ∃ r15:aggregate_total,aggregate_total_plus.C a12.sum 1 1 r15 ∧
 aggregate_groups.L2 x0 x1 x2 x3 x4 ((lset (lset z0 z3 (lset a10 ((mgetD r4 z2 ⟨0,0⟩)).2 (⟨(a12.ids++[a1.ID]),a12.ok,a12.value,a12.sum⟩:aggregate_group))) z3 (lset (lset a10 ((mgetD r4 z2 ⟨0,0⟩)).2 (⟨(a12.ids++[a1.ID]),a12.ok,a12.value,a12.sum⟩:aggregate_group)) ((mgetD r4 z2 ⟨0,0⟩)).2 (⟨(a12.ids++[a1.ID]),a12.ok,a12.value,r15⟩:aggregate_group)))) z1 z2 z4 φ
 else
 (if x3=2 then
 ∃ a16,lget a1.Values x4=some a16 ∧
 (if a16.Kind=1 then
 ∃ r18:aggregate_total,aggregate_total_plus.C a12.sum a16.Num 1 r18 ∧
 aggregate_groups.L2 x0 x1 x2 x3 x4 ((lset (lset z0 z3 (lset a10 ((mgetD r4 z2 ⟨0,0⟩)).2 (⟨(a12.ids++[a1.ID]),a12.ok,a12.value,a12.sum⟩:aggregate_group))) z3 (lset (lset a10 ((mgetD r4 z2 ⟨0,0⟩)).2 (⟨(a12.ids++[a1.ID]),a12.ok,a12.value,a12.sum⟩:aggregate_group)) ((mgetD r4 z2 ⟨0,0⟩)).2 (⟨(a12.ids++[a1.ID]),a12.ok,a12.value,r18⟩:aggregate_group)))) z1 z2 z4 φ
 else
 aggregate_groups.L2 x0 x1 x2 x3 x4 ((lset z0 z3 (lset a10 ((mgetD r4 z2 ⟨0,0⟩)).2 (⟨(a12.ids++[a1.ID]),a12.ok,a12.value,a12.sum⟩:aggregate_group)))) z1 z2 z4 φ)
 else
 ∃ a19,lget a1.Values x4=some a19 ∧
 aggregate_groups.L2 x0 x1 x2 x3 x4 ((lset (lset z0 z3 (lset a10 ((mgetD r4 z2 ⟨0,0⟩)).2 (⟨(a12.ids++[a1.ID]),a12.ok,a12.value,a12.sum⟩:aggregate_group))) z3 (lset (lset a10 ((mgetD r4 z2 ⟨0,0⟩)).2 (⟨(a12.ids++[a1.ID]),a12.ok,a12.value,a12.sum⟩:aggregate_group)) ((mgetD r4 z2 ⟨0,0⟩)).2 (⟨(a12.ids++[a1.ID]),a12.ok,a19,a12.sum⟩:aggregate_group)))) z1 z2 z4 φ))
 else
 aggregate_groups.L2 x0 x1 x2 x3 x4 ((lset z0 z3 (lset a10 ((mgetD r4 z2 ⟨0,0⟩)).2 (⟨(a12.ids++[a1.ID]),a12.ok,a12.value,a12.sum⟩:aggregate_group)))) z1 z2 z4 φ)):L3 x0 x1 x2 x3 x4 z0 z1 z2 a1 r4 z3 z4 φ:=
 mIn <|
 mIy 3 (eOw enc_aggregate_group) h fun a10 h11 h=>
 mLd 0 (eOw enc_aggregate_group) h11 <|
 mVl 2 (val_lookup_f kb_str (fun _=>by kernel_rfl) (ek:=Value.string) (ev:=(fun (x:(Int×Int))=>D.agg [.lit (.int .i64 x.1),.lit (.int .i64 x.2)])) (t:=107) (x:=(.tmp 91)) (kx:=(.tmp 92)) (s:=13) (ps:=[]) (l:=z2) (kd:=.lit (.string r4)) (kv:=r4) (kt:=9) (vt:=110) (v0:=⟨0,0⟩) (by kernel_rfl) (by kernel_rfl) (by kernel_rfl) (by kernel_rfl) (by kernel_rfl) (by kernel_rfl) (by kernel_rfl) (by kernel_rfl)) <|
 h.elim fun a12 h=>h.elim fun h13 h=>
 mVl 1 (val_idx_ow (s:=11) (ps:=[((z3.toNat),0)]) (t:=79) (x:=(.tmp 90)) (ix:=(.tmp 94)) (et:=92) (k:=7) (e:=enc_aggregate_group) (l:=a10) (i:=((mgetD r4 z2 ⟨0,0⟩)).2) (q:=.i64) (a:=a12) (by kernel_rfl) (by kernel_rfl) (getAt_el (ps:=[]) (e:=(eOw enc_aggregate_group)) (l:=z0) (n:=(z3.toNat)) (a:=a10) (c:=0) (by kernel_rfl) (lget_some h11).2 (by kernel_rfl)) (by kernel_rfl) (by kernel_rfl) (by kernel_rfl) h13 (by kernel_rfl)) <|
 mVl 7 (val_load_ow (t:=61) (x:=(.tmp 99)) (s:=11) (ps:=[((z3.toNat),0)]) (n:=((((mgetD r4 z2 ⟨0,0⟩)).2).toNat)) (c:=0) (e:=enc_aggregate_group) (l:=a10) (a:=a12) (d:=.alias 11 [((z3.toNat),0),(((((mgetD r4 z2 ⟨0,0⟩)).2).toNat),0)]) (by kernel_rfl) (by kernel_rfl) (getAt_el (ps:=[]) (e:=(eOw enc_aggregate_group)) (l:=z0) (n:=(z3.toNat)) (a:=a10) (c:=0) (by kernel_rfl) (lget_some h11).2 (by kernel_rfl)) (by kernel_rfl) (lget_some h13).2 (by kernel_rfl)) <|
 h.elim fun h14 h=>
 mActL 3 (app2 (x:=(.tmp 100)) (y:=(.tmp 103)) (t:=61) (u:=61) (et:=2) (z:=.lit (.int .i64 0)) (k:=1) (c:=8) (e:=(eI .i64)) (l:=a12.ids) (m:=[a1.ID]) (by kernel_rfl) (by kernel_rfl) (by kernel_rfl) (by kernel_rfl) (by kernel_rfl) (take_el (s:=11) (ps:=[((z3.toNat),0)]) (n:=((((mgetD r4 z2 ⟨0,0⟩)).2).toNat)) (c:=0) (e:=enc_aggregate_group) (l:=a10) (a:=a12) (by kernel_rfl) (getAt_el (ps:=[]) (e:=(eOw enc_aggregate_group)) (l:=z0) (n:=(z3.toNat)) (a:=a10) (c:=0) (by kernel_rfl) (lget_some h11).2 (by kernel_rfl)) (lget_some h13).2 (by kernel_rfl) (by kernel_rfl) (setAt_el (ps:=[]) (e:=(eOw enc_aggregate_group)) (l:=z0) (n:=(z3.toNat)) (a:=a10) (c:=0) (d':=.own ((a10.map enc_aggregate_group).set (((mgetD r4 z2 ⟨0,0⟩)).2).toNat [.undef,.lit (.bool a12.ok),.lit (.int .i64 a12.value.Kind),.lit (.int .i64 a12.value.Num),.lit (.string a12.value.Str),.lit (.int .i64 a12.sum.high),.lit (.int .i64 a12.sum.low)])) (by kernel_rfl) (lget_some h11).2 (by kernel_rfl) (setG_eq (by kernel_rfl)))) (by kernel_rfl) (by kernel_rfl) (by kernel_rfl) (by kernel_rfl) (by kernel_rfl) (fun _=>rfl) h14) <|
 mOp 2 (store3 (t:=61) (x:=(.tmp 106)) (y:=(.tmp 104)) (s:=11) (ps:=[((z3.toNat),0)]) (n:=((((mgetD r4 z2 ⟨0,0⟩)).2).toNat)) (c:=0) (e:=enc_aggregate_group) (l:=a10) (a:=a12) (b:=(⟨(a12.ids++[a1.ID]),a12.ok,a12.value,a12.sum⟩:aggregate_group)) (k:=1) (cs:=[.undef,.lit (.bool a12.ok),.lit (.int .i64 a12.value.Kind),.lit (.int .i64 a12.value.Num),.lit (.string a12.value.Str),.lit (.int .i64 a12.sum.high),.lit (.int .i64 a12.sum.low)]) (d:=.own (((a12.ids++[a1.ID])).map (eI .i64))) (by kernel_rfl) (by kernel_rfl) (by kernel_rfl) (getAt_hole (ps:=[]) (e:=(eOw enc_aggregate_group)) (l:=z0) (n:=(z3.toNat)) (a:=a10) (c:=0) (cs:=[.own ((a10.map enc_aggregate_group).set (((mgetD r4 z2 ⟨0,0⟩)).2).toNat [.undef,.lit (.bool a12.ok),.lit (.int .i64 a12.value.Kind),.lit (.int .i64 a12.value.Num),.lit (.string a12.value.Str),.lit (.int .i64 a12.sum.high),.lit (.int .i64 a12.sum.low)])]) (by kernel_rfl) (lget_some h11).2 (by kernel_rfl)) (lget_some h13).2 (by kernel_rfl) (by kernel_rfl) (by kernel_rfl) (by kernel_rfl) (by kernel_rfl) (setAt_fill (ps:=[]) (e:=(eOw enc_aggregate_group)) (l:=z0) (n:=(z3.toNat)) (a:=a10) (c:=0) (cs:=[.own ((a10.map enc_aggregate_group).set (((mgetD r4 z2 ⟨0,0⟩)).2).toNat [.undef,.lit (.bool a12.ok),.lit (.int .i64 a12.value.Kind),.lit (.int .i64 a12.value.Num),.lit (.string a12.value.Str),.lit (.int .i64 a12.sum.high),.lit (.int .i64 a12.sum.low)])]) (b:=(lset a10 ((mgetD r4 z2 ⟨0,0⟩)).2 (⟨(a12.ids++[a1.ID]),a12.ok,a12.value,a12.sum⟩:aggregate_group))) (by kernel_rfl) (lget_some h11).2 (by kernel_rfl) (by kernel_rfl) (setG_eq (by kernel_rfl)))) <|
 mAsk 5 h id fls (hv:=(val_load_ow (t:=4) (x:=(.tmp 109)) (s:=11) (ps:=[((z3.toNat),0)]) (n:=((((mgetD r4 z2 ⟨0,0⟩)).2).toNat)) (c:=1) (e:=enc_aggregate_group) (l:=(lset a10 ((mgetD r4 z2 ⟨0,0⟩)).2 (⟨(a12.ids++[a1.ID]),a12.ok,a12.value,a12.sum⟩:aggregate_group))) (a:=(⟨(a12.ids++[a1.ID]),a12.ok,a12.value,a12.sum⟩:aggregate_group)) (d:=.lit (.bool a12.ok)) (by kernel_rfl) (by kernel_rfl) (getAt_el (ps:=[]) (e:=(eOw enc_aggregate_group)) (l:=(lset z0 z3 (lset a10 ((mgetD r4 z2 ⟨0,0⟩)).2 (⟨(a12.ids++[a1.ID]),a12.ok,a12.value,a12.sum⟩:aggregate_group)))) (n:=(z3.toNat)) (a:=(lset a10 ((mgetD r4 z2 ⟨0,0⟩)).2 (⟨(a12.ids++[a1.ID]),a12.ok,a12.value,a12.sum⟩:aggregate_group))) (c:=0) (by kernel_rfl) (lget_some (lls h11)).2 (by kernel_rfl)) (by kernel_rfl) (lget_some (lls h13)).2 (by kernel_rfl))) (fun h=>
 mCon 11 h beq_t beq_f (fun h=>
 mVl 5 (val_load_ow (t:=90) (x:=(.tmp 126)) (s:=11) (ps:=[((z3.toNat),0)]) (n:=((((mgetD r4 z2 ⟨0,0⟩)).2).toNat)) (c:=5) (e:=enc_aggregate_group) (l:=(lset a10 ((mgetD r4 z2 ⟨0,0⟩)).2 (⟨(a12.ids++[a1.ID]),a12.ok,a12.value,a12.sum⟩:aggregate_group))) (a:=(⟨(a12.ids++[a1.ID]),a12.ok,a12.value,a12.sum⟩:aggregate_group)) (d:=.agg [.lit (.int .i64 a12.sum.high),.lit (.int .i64 a12.sum.low)]) (by kernel_rfl) (by kernel_rfl) (getAt_el (ps:=[]) (e:=(eOw enc_aggregate_group)) (l:=(lset z0 z3 (lset a10 ((mgetD r4 z2 ⟨0,0⟩)).2 (⟨(a12.ids++[a1.ID]),a12.ok,a12.value,a12.sum⟩:aggregate_group)))) (n:=(z3.toNat)) (a:=(lset a10 ((mgetD r4 z2 ⟨0,0⟩)).2 (⟨(a12.ids++[a1.ID]),a12.ok,a12.value,a12.sum⟩:aggregate_group))) (c:=0) (by kernel_rfl) (lget_some (lls h11)).2 (by kernel_rfl)) (by kernel_rfl) (lget_some (lls h13)).2 (by kernel_rfl)) <|
 mCal 0 h (fun _ h=>h) (hf:=(fun _=>clF_flat (flat_agg (flts_cons rfl (flts_cons rfl flts_nil))) rfl)) fun r15 _ h=>
 mOp 2 (store1 (t:=90) (x:=(.tmp 130)) (y:=(.tmp 128)) (s:=11) (ps:=[((z3.toNat),0)]) (n:=((((mgetD r4 z2 ⟨0,0⟩)).2).toNat)) (c:=5) (e:=enc_aggregate_group) (l:=(lset a10 ((mgetD r4 z2 ⟨0,0⟩)).2 (⟨(a12.ids++[a1.ID]),a12.ok,a12.value,a12.sum⟩:aggregate_group))) (a:=(⟨(a12.ids++[a1.ID]),a12.ok,a12.value,a12.sum⟩:aggregate_group)) (b:=(⟨(a12.ids++[a1.ID]),a12.ok,a12.value,r15⟩:aggregate_group)) (k:=2) (d:=.agg [.lit (.int .i64 r15.high),.lit (.int .i64 r15.low)]) (by kernel_rfl) (by kernel_rfl) (by kernel_rfl) (getAt_el (ps:=[]) (e:=(eOw enc_aggregate_group)) (l:=(lset z0 z3 (lset a10 ((mgetD r4 z2 ⟨0,0⟩)).2 (⟨(a12.ids++[a1.ID]),a12.ok,a12.value,a12.sum⟩:aggregate_group)))) (n:=(z3.toNat)) (a:=(lset a10 ((mgetD r4 z2 ⟨0,0⟩)).2 (⟨(a12.ids++[a1.ID]),a12.ok,a12.value,a12.sum⟩:aggregate_group))) (c:=0) (by kernel_rfl) (lget_some (lls h11)).2 (by kernel_rfl)) (lget_some (lls h13)).2 (by kernel_rfl) (by kernel_rfl) (by kernel_rfl) (by kernel_rfl) (by kernel_rfl) (setAt_inn (ps:=[]) (e:=(eOw enc_aggregate_group)) (l:=(lset z0 z3 (lset a10 ((mgetD r4 z2 ⟨0,0⟩)).2 (⟨(a12.ids++[a1.ID]),a12.ok,a12.value,a12.sum⟩:aggregate_group)))) (n:=(z3.toNat)) (a:=(lset a10 ((mgetD r4 z2 ⟨0,0⟩)).2 (⟨(a12.ids++[a1.ID]),a12.ok,a12.value,a12.sum⟩:aggregate_group))) (c:=0) (b:=(lset (lset a10 ((mgetD r4 z2 ⟨0,0⟩)).2 (⟨(a12.ids++[a1.ID]),a12.ok,a12.value,a12.sum⟩:aggregate_group)) ((mgetD r4 z2 ⟨0,0⟩)).2 (⟨(a12.ids++[a1.ID]),a12.ok,a12.value,r15⟩:aggregate_group))) (by kernel_rfl) (lget_some (lls h11)).2 (by kernel_rfl) (by kernel_rfl) (setG_eq (by kernel_rfl)))) <|
 mFin 1 h) fun h=>
 mCon 4 h beq_t beq_f (fun h=>
 mIx 4 enc_api_Value h fun a16 h17 h=>
 mAsk 7 h beq_t beq_f (fun h=>
 mVl 7 (val_load_ow (t:=90) (x:=(.tmp 144)) (s:=11) (ps:=[((z3.toNat),0)]) (n:=((((mgetD r4 z2 ⟨0,0⟩)).2).toNat)) (c:=5) (e:=enc_aggregate_group) (l:=(lset a10 ((mgetD r4 z2 ⟨0,0⟩)).2 (⟨(a12.ids++[a1.ID]),a12.ok,a12.value,a12.sum⟩:aggregate_group))) (a:=(⟨(a12.ids++[a1.ID]),a12.ok,a12.value,a12.sum⟩:aggregate_group)) (d:=.agg [.lit (.int .i64 a12.sum.high),.lit (.int .i64 a12.sum.low)]) (by kernel_rfl) (by kernel_rfl) (getAt_el (ps:=[]) (e:=(eOw enc_aggregate_group)) (l:=(lset z0 z3 (lset a10 ((mgetD r4 z2 ⟨0,0⟩)).2 (⟨(a12.ids++[a1.ID]),a12.ok,a12.value,a12.sum⟩:aggregate_group)))) (n:=(z3.toNat)) (a:=(lset a10 ((mgetD r4 z2 ⟨0,0⟩)).2 (⟨(a12.ids++[a1.ID]),a12.ok,a12.value,a12.sum⟩:aggregate_group))) (c:=0) (by kernel_rfl) (lget_some (lls h11)).2 (by kernel_rfl)) (by kernel_rfl) (lget_some (lls h13)).2 (by kernel_rfl)) <|
 mLo 2 h (fun _ h=>h) (hf:=(fun _=>loF_flat (flat_agg (flts_cons rfl (flts_cons rfl flts_nil))))) fun r18 _ h=>
 mOp 2 (store1 (t:=90) (x:=(.tmp 150)) (y:=(.tmp 148)) (s:=11) (ps:=[((z3.toNat),0)]) (n:=((((mgetD r4 z2 ⟨0,0⟩)).2).toNat)) (c:=5) (e:=enc_aggregate_group) (l:=(lset a10 ((mgetD r4 z2 ⟨0,0⟩)).2 (⟨(a12.ids++[a1.ID]),a12.ok,a12.value,a12.sum⟩:aggregate_group))) (a:=(⟨(a12.ids++[a1.ID]),a12.ok,a12.value,a12.sum⟩:aggregate_group)) (b:=(⟨(a12.ids++[a1.ID]),a12.ok,a12.value,r18⟩:aggregate_group)) (k:=2) (d:=.agg [.lit (.int .i64 r18.high),.lit (.int .i64 r18.low)]) (by kernel_rfl) (by kernel_rfl) (by kernel_rfl) (getAt_el (ps:=[]) (e:=(eOw enc_aggregate_group)) (l:=(lset z0 z3 (lset a10 ((mgetD r4 z2 ⟨0,0⟩)).2 (⟨(a12.ids++[a1.ID]),a12.ok,a12.value,a12.sum⟩:aggregate_group)))) (n:=(z3.toNat)) (a:=(lset a10 ((mgetD r4 z2 ⟨0,0⟩)).2 (⟨(a12.ids++[a1.ID]),a12.ok,a12.value,a12.sum⟩:aggregate_group))) (c:=0) (by kernel_rfl) (lget_some (lls h11)).2 (by kernel_rfl)) (lget_some (lls h13)).2 (by kernel_rfl) (by kernel_rfl) (by kernel_rfl) (by kernel_rfl) (by kernel_rfl) (setAt_inn (ps:=[]) (e:=(eOw enc_aggregate_group)) (l:=(lset z0 z3 (lset a10 ((mgetD r4 z2 ⟨0,0⟩)).2 (⟨(a12.ids++[a1.ID]),a12.ok,a12.value,a12.sum⟩:aggregate_group)))) (n:=(z3.toNat)) (a:=(lset a10 ((mgetD r4 z2 ⟨0,0⟩)).2 (⟨(a12.ids++[a1.ID]),a12.ok,a12.value,a12.sum⟩:aggregate_group))) (c:=0) (b:=(lset (lset a10 ((mgetD r4 z2 ⟨0,0⟩)).2 (⟨(a12.ids++[a1.ID]),a12.ok,a12.value,a12.sum⟩:aggregate_group)) ((mgetD r4 z2 ⟨0,0⟩)).2 (⟨(a12.ids++[a1.ID]),a12.ok,a12.value,r18⟩:aggregate_group))) (by kernel_rfl) (lget_some (lls h11)).2 (by kernel_rfl) (by kernel_rfl) (setG_eq (by kernel_rfl)))) <|
 mFin 1 h) fun h=>
 mFin 3 h) fun h=>
 mIx 5 enc_api_Value h fun a19 h20 h=>
 mOp 3 (store1 (t:=38) (x:=(.tmp 120)) (y:=(.tmp 118)) (s:=11) (ps:=[((z3.toNat),0)]) (n:=((((mgetD r4 z2 ⟨0,0⟩)).2).toNat)) (c:=2) (e:=enc_aggregate_group) (l:=(lset a10 ((mgetD r4 z2 ⟨0,0⟩)).2 (⟨(a12.ids++[a1.ID]),a12.ok,a12.value,a12.sum⟩:aggregate_group))) (a:=(⟨(a12.ids++[a1.ID]),a12.ok,a12.value,a12.sum⟩:aggregate_group)) (b:=(⟨(a12.ids++[a1.ID]),a12.ok,a19,a12.sum⟩:aggregate_group)) (k:=3) (d:=.agg [.lit (.int .i64 a19.Kind),.lit (.int .i64 a19.Num),.lit (.string a19.Str)]) (by kernel_rfl) (by kernel_rfl) (by kernel_rfl) (getAt_el (ps:=[]) (e:=(eOw enc_aggregate_group)) (l:=(lset z0 z3 (lset a10 ((mgetD r4 z2 ⟨0,0⟩)).2 (⟨(a12.ids++[a1.ID]),a12.ok,a12.value,a12.sum⟩:aggregate_group)))) (n:=(z3.toNat)) (a:=(lset a10 ((mgetD r4 z2 ⟨0,0⟩)).2 (⟨(a12.ids++[a1.ID]),a12.ok,a12.value,a12.sum⟩:aggregate_group))) (c:=0) (by kernel_rfl) (lget_some (lls h11)).2 (by kernel_rfl)) (lget_some (lls h13)).2 (by kernel_rfl) (by kernel_rfl) (by kernel_rfl) (by kernel_rfl) (by kernel_rfl) (setAt_inn (ps:=[]) (e:=(eOw enc_aggregate_group)) (l:=(lset z0 z3 (lset a10 ((mgetD r4 z2 ⟨0,0⟩)).2 (⟨(a12.ids++[a1.ID]),a12.ok,a12.value,a12.sum⟩:aggregate_group)))) (n:=(z3.toNat)) (a:=(lset a10 ((mgetD r4 z2 ⟨0,0⟩)).2 (⟨(a12.ids++[a1.ID]),a12.ok,a12.value,a12.sum⟩:aggregate_group))) (c:=0) (b:=(lset (lset a10 ((mgetD r4 z2 ⟨0,0⟩)).2 (⟨(a12.ids++[a1.ID]),a12.ok,a12.value,a12.sum⟩:aggregate_group)) ((mgetD r4 z2 ⟨0,0⟩)).2 (⟨(a12.ids++[a1.ID]),a12.ok,a19,a12.sum⟩:aggregate_group))) (by kernel_rfl) (lget_some (lls h11)).2 (by kernel_rfl) (by kernel_rfl) (setG_eq (by kernel_rfl)))) <|
 mFin 1 h) fun h=>
 mFin 4 h
theorem L2_step (x0:api_Table) (x1:Int) (x2:List api_Condition) (x3 x4:Int) (z0:List (List aggregate_group)) (z1:List (ByteArray×Int)) (z2:List (ByteArray×(Int×Int))) (z3:Int) (φ:List (List aggregate_group)→Prop) (h :
 aggregate_groups.L1 x0 x1 x2 x3 x4 z0 z1 z2 ((IntKind.wrap .i64 (z3+1))) φ):L2 x0 x1 x2 x3 x4 z0 z1 z2 z3 φ:=
 mIn <|
 mFin 4 h
theorem enter (x0:api_Table) (x1:Int) (x2:List api_Condition) (x3 x4:Int) (φ:List (List aggregate_group)→Prop) (h :
 aggregate_groups.L1 x0 x1 x2 x3 x4 ([]) ([]) ([]) 0 φ):∃ r,φ r∧C x0 x1 x2 x3 x4 r:=
 mEnt (fd:=Tryz.f29) (body:=B) (V:=W) (res:=res) <|
 mLen 16 enc_api_Row x0.Rows <|
 mFin 2 h
end aggregate_groups
end Go.Own
namespace Go.Own
open Go.Proofs D
set_option maxRecDepth 100000
set_option maxHeartbeats 4000000
namespace aggregate_pick
noncomputable def B:Code:=(Tryz.f57.body).getD .skip
def W:List Nat:=[0,1,4,5,6,7,9,10,11,12,13,14,19,41]
def res (r:aggregate_group×Bool):D×List D:=(.tup [.agg [.sl (r.1.ids.map (eI .i64)),.lit (.bool r.1.ok),.lit (.int .i64 r.1.value.Kind),.lit (.int .i64 r.1.value.Num),.lit (.string r.1.value.Str),.lit (.int .i64 r.1.sum.high),.lit (.int .i64 r.1.sum.low)],.lit (.bool r.2)],[])
def C (x0:List aggregate_group) (x1:Bool) (r:aggregate_group×Bool):Prop:=Ret env 57 [.sl (x0.map enc_aggregate_group_2),.lit (.bool x1)] (res r).1 (res r).2
def L1 (x0:List aggregate_group) (x1:Bool) (z0:List Int) (z1:Bool) (z2 z3:Int) (z4:ByteArray) (z5 z6:Int) (z7:Bool) (z8:Int) (φ:aggregate_group×Bool→Prop):Prop:=Pt env 57 W B [1,1,1,0,1,0] [(0,.sl (x0.map enc_aggregate_group_2)),(1,.lit (.bool x1)),(4,.box [.own [],.lit (.bool false),.lit (.int .i64 0),.lit (.int .i64 0),.lit (.string ((⟨#[]⟩:ByteArray))),.lit (.int .i64 0),.lit (.int .i64 0)]),(6,.box [.sl (z0.map (eI .i64)),.lit (.bool z1),.lit (.int .i64 z2),.lit (.int .i64 z3),.lit (.string z4),.lit (.int .i64 z5),.lit (.int .i64 z6)]),(7,.lit (.bool z7)),(11,.sl (x0.map enc_aggregate_group_2)),(12,.lit (.int .i64 ((x0.length:Int)))),(13,.lit (.int .i64 z8))] (Lv env 57 Tryz.f57 2 res φ)
def L3 (x0:List aggregate_group) (x1:Bool) (z0:List Int) (z1:Bool) (z2 z3:Int) (z4:ByteArray) (z5 z6:Int) (a1:aggregate_group) (z7:Int) (φ:aggregate_group×Bool→Prop):Prop:=Pt env 57 W B [1,1,1,0,1,0,0,1,1,0,0,1,1,1,1,0] [(0,.sl (x0.map enc_aggregate_group_2)),(1,.lit (.bool x1)),(4,.box [.own [],.lit (.bool false),.lit (.int .i64 0),.lit (.int .i64 0),.lit (.string ((⟨#[]⟩:ByteArray))),.lit (.int .i64 0),.lit (.int .i64 0)]),(6,.box [.sl (z0.map (eI .i64)),.lit (.bool z1),.lit (.int .i64 z2),.lit (.int .i64 z3),.lit (.string z4),.lit (.int .i64 z5),.lit (.int .i64 z6)]),(9,.box [.sl (a1.ids.map (eI .i64)),.lit (.bool a1.ok),.lit (.int .i64 a1.value.Kind),.lit (.int .i64 a1.value.Num),.lit (.string a1.value.Str),.lit (.int .i64 a1.sum.high),.lit (.int .i64 a1.sum.low)]),(11,.sl (x0.map enc_aggregate_group_2)),(12,.lit (.int .i64 ((x0.length:Int)))),(13,.lit (.int .i64 z7))] (Lv env 57 Tryz.f57 2 res φ)
def L2 (x0:List aggregate_group) (x1:Bool) (z0:List Int) (z1:Bool) (z2 z3:Int) (z4:ByteArray) (z5 z6:Int) (z7:Bool) (z8:Int) (φ:aggregate_group×Bool→Prop):Prop:=Pt env 57 W B [1,1,1,0,1,0,0,1,1,1] [(0,.sl (x0.map enc_aggregate_group_2)),(1,.lit (.bool x1)),(4,.box [.own [],.lit (.bool false),.lit (.int .i64 0),.lit (.int .i64 0),.lit (.string ((⟨#[]⟩:ByteArray))),.lit (.int .i64 0),.lit (.int .i64 0)]),(6,.box [.sl (z0.map (eI .i64)),.lit (.bool z1),.lit (.int .i64 z2),.lit (.int .i64 z3),.lit (.string z4),.lit (.int .i64 z5),.lit (.int .i64 z6)]),(7,.lit (.bool z7)),(11,.sl (x0.map enc_aggregate_group_2)),(12,.lit (.int .i64 ((x0.length:Int)))),(13,.lit (.int .i64 z8))] (Lv env 57 Tryz.f57 2 res φ)
theorem L1_step (x0:List aggregate_group) (x1:Bool) (z0:List Int) (z1:Bool) (z2 z3:Int) (z4:ByteArray) (z5 z6:Int) (z7:Bool) (z8:Int) (φ:aggregate_group×Bool→Prop) (h :
 (if z8<(x0.length:Int) then
 ∃ a1,lget x0 z8=some a1 ∧
 (if a1.ok=true then
 ∃ r3:Int,value_Compare.C a1.value ((⟨z2,z3,z4⟩:api_Value)) r3 ∧
 (if z7=true then
 (if x1=true then
 (if 0<r3 then
 aggregate_pick.L3 x0 x1 z0 z1 z2 z3 z4 z5 z6 a1 z8 φ
 else
 (if x1=true then
 aggregate_pick.L2 x0 x1 z0 z1 z2 z3 z4 z5 z6 z7 z8 φ
 else
 (if r3<0 then
 aggregate_pick.L3 x0 x1 z0 z1 z2 z3 z4 z5 z6 a1 z8 φ
 else
 aggregate_pick.L2 x0 x1 z0 z1 z2 z3 z4 z5 z6 z7 z8 φ)))
 else
 (if x1=true then
 aggregate_pick.L2 x0 x1 z0 z1 z2 z3 z4 z5 z6 z7 z8 φ
 else
 (if r3<0 then
 aggregate_pick.L3 x0 x1 z0 z1 z2 z3 z4 z5 z6 a1 z8 φ
 else
 aggregate_pick.L2 x0 x1 z0 z1 z2 z3 z4 z5 z6 z7 z8 φ)))
 else
 aggregate_pick.L3 x0 x1 z0 z1 z2 z3 z4 z5 z6 a1 z8 φ)
 else
 aggregate_pick.L2 x0 x1 z0 z1 z2 z3 z4 z5 z6 z7 z8 φ)
 else
 φ (((⟨z0,z1,(⟨z2,z3,z4⟩:api_Value),(⟨z5,z6⟩:aggregate_total)⟩:aggregate_group),z7)))):L1 x0 x1 z0 z1 z2 z3 z4 z5 z6 z7 z8 φ:=
 mIn <|
 mAsk 2 h dT dF (fun h=>
 mIx 4 enc_aggregate_group_2 h fun a1 h2 h=>
 mAsk 6 h id fls (fun h=>
 mCal 9 h (fun _ h=>h) fun r3 _ h=>
 mAsk 3 h id fls (fun h=>
 mAsk 2 h id fls (fun h=>
 mAsk 2 h dT dF (fun h=>
 mFin 12 h) fun h=>
 mAsk 3 h id fls (fun h=>
 mFin 9 h) fun h=>
 mAsk 3 h dT dF (fun h=>
 mFin 4 h) fun h=>
 mFin 5 h) fun h=>
 mAsk 6 h id fls (fun h=>
 mFin 9 h) fun h=>
 mAsk 3 h dT dF (fun h=>
 mFin 4 h) fun h=>
 mFin 5 h) fun h=>
 mFin 18 h) fun h=>
 mFin 4 h) fun h=>
 mRet 9 h
theorem L3_step (x0:List aggregate_group) (x1:Bool) (z0:List Int) (z1:Bool) (z2 z3:Int) (z4:ByteArray) (z5 z6:Int) (a1:aggregate_group) (z7:Int) (φ:aggregate_group×Bool→Prop) (h :
 aggregate_pick.L2 x0 x1 a1.ids a1.ok a1.value.Kind a1.value.Num a1.value.Str a1.sum.high a1.sum.low true z7 φ):L3 x0 x1 z0 z1 z2 z3 z4 z5 z6 a1 z7 φ:=
 mIn <|
 mFin 5 h
theorem L2_step (x0:List aggregate_group) (x1:Bool) (z0:List Int) (z1:Bool) (z2 z3:Int) (z4:ByteArray) (z5 z6:Int) (z7:Bool) (z8:Int) (φ:aggregate_group×Bool→Prop) (h :
 aggregate_pick.L1 x0 x1 z0 z1 z2 z3 z4 z5 z6 z7 ((IntKind.wrap .i64 (z8+1))) φ):L2 x0 x1 z0 z1 z2 z3 z4 z5 z6 z7 z8 φ:=
 mIn <|
 mFin 4 h
theorem enter (x0:List aggregate_group) (x1:Bool) (φ:aggregate_group×Bool→Prop) (h :
 aggregate_pick.L1 x0 x1 ([]) false 0 0 ((⟨#[]⟩:ByteArray)) 0 0 false 0 φ):∃ r,φ r∧C x0 x1 r:=
 mEnt (fd:=Tryz.f57) (body:=B) (V:=W) (res:=res) <|
 mLen 12 enc_aggregate_group_2 x0 <|
 mFin 2 h
end aggregate_pick
end Go.Own
namespace Go.Own
open Go.Proofs D
set_option maxRecDepth 100000
set_option maxHeartbeats 4000000
namespace aggregate_total_add
noncomputable def B:Code:=(Tryz.f55.body).getD .skip
def W:List Nat:=[0,1,2,3,4]
def res (r:aggregate_total):D×List D:=(.agg [.lit (.int .i64 r.high),.lit (.int .i64 r.low)],[])
def C (x0 x1 r:aggregate_total):Prop:=Ret env 55 [.agg [.lit (.int .i64 x0.high),.lit (.int .i64 x0.low)],.agg [.lit (.int .i64 x1.high),.lit (.int .i64 x1.low)]] (res r).1 (res r).2
theorem enter (x0 x1:aggregate_total) (φ:aggregate_total→Prop) (h :
 ∃ r1:aggregate_total,aggregate_total_normal.C ((⟨(IntKind.wrap .i64 (x0.high+x1.high)),(IntKind.wrap .i64 (x0.low+x1.low))⟩:aggregate_total)) r1 ∧
 φ r1):∃ r,φ r∧C x0 x1 r:=
 mEnt (fd:=Tryz.f55) (body:=B) (V:=W) (res:=res) <|
 mCal 17 h (fun _ h=>h) (hf:=(fun _=>clF_flat (flat_agg (flts_cons rfl (flts_cons rfl flts_nil))) rfl)) fun r1 _ h=>
 mRet 2 h
end aggregate_total_add
end Go.Own
namespace Go.Own
open Go.Proofs D
set_option maxRecDepth 100000
set_option maxHeartbeats 4000000
namespace aggregate_total_number
noncomputable def B:Code:=(Tryz.f56.body).getD .skip
def W:List Nat:=[0,1,2,3,11]
def res (r:api_Value×Int):D×List D:=(.tup [.agg [.lit (.int .i64 r.1.Kind),.lit (.int .i64 r.1.Num),.lit (.string r.1.Str)],.lit (.int .i64 r.2)],[])
def C (x0:aggregate_total) (r:api_Value×Int):Prop:=Ret env 56 [.agg [.lit (.int .i64 x0.high),.lit (.int .i64 x0.low)]] (res r).1 (res r).2
theorem enter (x0:aggregate_total) (φ:api_Value×Int→Prop) (h :
 (if x0.high<(-2147483648) then
 φ (((⟨0,0,(⟨#[]⟩:ByteArray)⟩:api_Value),7))
 else
 (if 2147483647<x0.high then
 φ (((⟨0,0,(⟨#[]⟩:ByteArray)⟩:api_Value),7))
 else
 φ (((⟨1,(IntKind.wrap .i64 ((shlw .i64 x0.high 32)+x0.low)),(⟨#[]⟩:ByteArray)⟩:api_Value),0))))):∃ r,φ r∧C x0 r:=
 mEnt (fd:=Tryz.f56) (body:=B) (V:=W) (res:=res) <|
 mAsk 8 h dT dF (fun h=>
 mRet 12 h) fun h=>
 mAsk 3 h dT dF (fun h=>
 mRet 8 h) fun h=>
 mRet 15 h
end aggregate_total_number
end Go.Own
namespace Go.Own
open Go.Proofs D
set_option maxRecDepth 100000
set_option maxHeartbeats 4000000
namespace aggregate_choice_result
noncomputable def B:Code:=(Tryz.f33.body).getD .skip
def W:List Nat:=[0,1,4,5,6,8,9,10,16,17,18,19,20]
def res (r:api_Value×Int):D×List D:=(.tup [.agg [.lit (.int .i64 r.1.Kind),.lit (.int .i64 r.1.Num),.lit (.string r.1.Str)],.lit (.int .i64 r.2)],[])
def C (x0:List aggregate_group) (x1:Int) (r:api_Value×Int):Prop:=Ret env 33 [.sl (x0.map enc_aggregate_group_2),.lit (.int .i64 x1)] (res r).1 (res r).2
def L2 (x0:List aggregate_group) (φ:api_Value×Int→Prop):Prop:=Pt env 33 W B [1,0,1,0,0] [(0,.sl (x0.map enc_aggregate_group_2)),(4,.box [.lit (.int .i64 0),.lit (.int .i64 0),.lit (.string ((⟨#[]⟩:ByteArray)))])] (Lv env 33 Tryz.f33 2 res φ)
def L1 (x0:List aggregate_group) (z0 z1 z2:Int) (φ:api_Value×Int→Prop):Prop:=Pt env 33 W B [1,0,1,0,1,0,1,0] [(0,.sl (x0.map enc_aggregate_group_2)),(4,.box [.lit (.int .i64 0),.lit (.int .i64 0),.lit (.string ((⟨#[]⟩:ByteArray)))]),(6,.box [.lit (.int .i64 z0),.lit (.int .i64 z1)]),(17,.sl (x0.map enc_aggregate_group_2)),(18,.lit (.int .i64 ((x0.length:Int)))),(19,.lit (.int .i64 z2))] (Lv env 33 Tryz.f33 2 res φ)
theorem L2_step (x0:List aggregate_group) (φ:api_Value×Int→Prop) (h :
 aggregate_choice_result.L1 x0 0 0 0 φ):L2 x0 φ:=
 mIn <|
 mLen 5 enc_aggregate_group_2 x0 <|
 mFin 2 h
theorem L1_step (x0:List aggregate_group) (z0 z1 z2:Int) (φ:api_Value×Int→Prop) (h :
 (if z2<(x0.length:Int) then
 ∃ a2,lget x0 z2=some a2 ∧
 ∃ r4:aggregate_total,aggregate_total_add.C ((⟨z0,z1⟩:aggregate_total)) a2.sum r4 ∧
 aggregate_choice_result.L1 x0 r4.high r4.low ((IntKind.wrap .i64 (z2+1))) φ
 else
 ∃ r5:api_Value×Int,aggregate_total_number.C ((⟨z0,z1⟩:aggregate_total)) r5 ∧
 φ ((r5.1,r5.2)))):L1 x0 z0 z1 z2 φ:=
 mIn <|
 mAsk 2 h dT dF (fun h=>
 mIx 4 enc_aggregate_group_2 h fun a2 h3 h=>
 mCal 8 h (fun _ h=>h) (hf:=(fun _=>clF_flat (flat_agg (flts_cons rfl (flts_cons rfl flts_nil))) rfl)) fun r4 _ h=>
 mFin 6 h) fun h=>
 mCal 5 h (fun _ h=>h) (hf:=(fun _=>clF_flat (flat_tup (flts_cons (flat_agg (flts_cons rfl (flts_cons rfl (flts_cons rfl flts_nil)))) (flts_cons rfl flts_nil))) rfl)) fun r5 _ h=>
 mRet 5 h
theorem enter (x0:List aggregate_group) (x1:Int) (φ:api_Value×Int→Prop) (h :
 (if x1=1 then
 aggregate_choice_result.L2 x0 φ
 else
 (if x1=2 then
 aggregate_choice_result.L2 x0 φ
 else
 ∃ r1:aggregate_group×Bool,aggregate_pick.C x0 ((x1 == 4)) r1 ∧
 φ ((r1.1.value,0))))):∃ r,φ r∧C x0 x1 r:=
 mEnt (fd:=Tryz.f33) (body:=B) (V:=W) (res:=res) <|
 mAsk 6 h beq_t beq_f (fun h=>
 mFin 6 h) fun h=>
 mAsk 2 h beq_t beq_f (fun h=>
 mFin 3 h) fun h=>
 mCal 8 h (fun _ h=>h) (hf:=(fun _=>clF_both)) fun r1 _ h=>
 mRet 13 h
end aggregate_choice_result
end Go.Own
namespace Go.Own
open Go.Proofs D
set_option maxRecDepth 100000
set_option maxHeartbeats 4000000
namespace drossref51_Blocks
noncomputable def B:Code:=(Tryz.f39.body).getD .skip
def W:List Nat:=[0,1,2,4,5,6,7,8,13,19,34,50]
def res (r:List (List api_Row)):D×List D:=(.own (r.map (eOw enc_api_Row)),[])
def C (x0:api_Table) (x1:Int) (r:List (List api_Row)):Prop:=Ret env 39 [.agg [.lit (.string x0.Name),.sl (x0.Attrs.map eS),.sl (x0.Rows.map enc_api_Row)],.lit (.int .u32 x1)] (res r).1 (res r).2
def L1 (x0:api_Table) (x1:Int) (z0:List (List api_Row)) (z1:Int) (φ:List (List api_Row)→Prop):Prop:=Pt env 39 W B [1,1,0,1,0] [(0,.agg [.lit (.string x0.Name),.sl (x0.Attrs.map eS),.sl (x0.Rows.map enc_api_Row)]),(1,.lit (.int .u32 x1)),(2,.box [.lit (.string x0.Name),.sl (x0.Attrs.map eS),.sl (x0.Rows.map enc_api_Row)]),(5,.own (z0.map (eOw enc_api_Row))),(6,.lit (.int .i64 z1))] (Lv env 39 Tryz.f39 2 res φ)
def L2 (x0:api_Table) (x1:Int) (z0:List (List api_Row)) (z1:Int) (z2:Bool) (z3:Int) (φ:List (List api_Row)→Prop):Prop:=Pt env 39 W B [1,1,0,1,0,0,1,0,0,1,0,1,0] [(0,.agg [.lit (.string x0.Name),.sl (x0.Attrs.map eS),.sl (x0.Rows.map enc_api_Row)]),(1,.lit (.int .u32 x1)),(2,.box [.lit (.string x0.Name),.sl (x0.Attrs.map eS),.sl (x0.Rows.map enc_api_Row)]),(5,.own (z0.map (eOw enc_api_Row))),(6,.lit (.int .i64 z1)),(7,.lit (.bool z2)),(8,.lit (.int .i64 z3))] (Lv env 39 Tryz.f39 2 res φ)
def L3 (x0:api_Table) (x1:Int) (z0:List (List api_Row)) (z1:Int) (z2:Bool) (z3:Int) (φ:List (List api_Row)→Prop):Prop:=Pt env 39 W B [1,1,0,1,0,0,1,0,0,1,0,1,0,0,1,1] [(0,.agg [.lit (.string x0.Name),.sl (x0.Attrs.map eS),.sl (x0.Rows.map enc_api_Row)]),(1,.lit (.int .u32 x1)),(2,.box [.lit (.string x0.Name),.sl (x0.Attrs.map eS),.sl (x0.Rows.map enc_api_Row)]),(5,.own (z0.map (eOw enc_api_Row))),(6,.lit (.int .i64 z1)),(7,.lit (.bool z2)),(8,.lit (.int .i64 z3))] (Lv env 39 Tryz.f39 2 res φ)
def L4 (x0:api_Table) (x1:Int) (z0:List (List api_Row)) (z1:Int) (φ:List (List api_Row)→Prop):Prop:=Pt env 39 W B [1,1,0,1,0,0,1,1] [(0,.agg [.lit (.string x0.Name),.sl (x0.Attrs.map eS),.sl (x0.Rows.map enc_api_Row)]),(1,.lit (.int .u32 x1)),(2,.box [.lit (.string x0.Name),.sl (x0.Attrs.map eS),.sl (x0.Rows.map enc_api_Row)]),(5,.own (z0.map (eOw enc_api_Row))),(6,.lit (.int .i64 z1))] (Lv env 39 Tryz.f39 2 res φ)
theorem L1_step (x0:api_Table) (x1:Int) (z0:List (List api_Row)) (z1:Int) (φ:List (List api_Row)→Prop) (h :
 (if z1<(x0.Rows.length:Int) then
 drossref51_Blocks.L2 x0 x1 z0 z1 false 0 φ
 else
 φ z0)):L1 x0 x1 z0 z1 φ:=
 mIn <|
 mLen 5 enc_api_Row x0.Rows <|
 mAsk 0 h dT dF (fun h=>
 mFin 9 h) fun h=>
 mRet 7 h
theorem L2_step (x0:api_Table) (x1:Int) (z0:List (List api_Row)) (z1:Int) (z2:Bool) (z3:Int) (φ:List (List api_Row)→Prop) (h :
 (if z3<(z0.length:Int) then
 ∃ a1,lget z0 z3=some a1 ∧
 ∃ a3,lget a1 0=some a3 ∧
 ∃ a5,lget x0.Rows z1=some a5 ∧
 ∃ r7:Bool,drossref03_Agree.C a3 a5 x1 r7 ∧
 (if r7=true then
 (a1.length+1)*32≤140737488355328 ∧
 drossref51_Blocks.L3 x0 x1 ((lset z0 z3 (a1++[a5]))) z1 true z3 φ
 else
 drossref51_Blocks.L3 x0 x1 z0 z1 z2 z3 φ)
 else
 (if z2=true then
 drossref51_Blocks.L4 x0 x1 z0 z1 φ
 else
 ∃ a9,lget x0.Rows z1=some a9 ∧
 (z0.length+1)*24≤140737488355328 ∧
 drossref51_Blocks.L4 x0 x1 ((z0++[[a9]])) z1 φ))):L2 x0 x1 z0 z1 z2 z3 φ:=
 mIn <|
 mLen 4 (eOw enc_api_Row) z0 <|
 mAsk 0 h dT dF (fun h=>
 mIy 6 (eOw enc_api_Row) h fun a1 h2 h=>
 mLd 0 (eOw enc_api_Row) h2 <|
 h.elim fun a3 h=>h.elim fun h4 h=>
 mVl 0 (val_idx_ow (s:=5) (ps:=[((z3.toNat),0)]) (t:=23) (x:=(.tmp 25)) (ix:=(.const (.int .i64 0))) (et:=82) (k:=2) (e:=enc_api_Row) (l:=a1) (i:=0) (q:=.i64) (a:=a3) (by kernel_rfl) (by kernel_rfl) (getAt_el (ps:=[]) (e:=(eOw enc_api_Row)) (l:=z0) (n:=(z3.toNat)) (a:=a1) (c:=0) (by kernel_rfl) (lget_some h2).2 (by kernel_rfl)) (by kernel_rfl) (by kernel_rfl) (by kernel_rfl) h4 (by kernel_rfl)) <|
 mVl 0 (val_load_ow (t:=82) (x:=(.tmp 26)) (s:=5) (ps:=[((z3.toNat),0)]) (n:=((0:Int).toNat)) (c:=0) (e:=enc_api_Row) (l:=a1) (a:=a3) (d:=.agg [.lit (.int .i64 a3.ID),.sl (a3.Values.map enc_api_Value)]) (by kernel_rfl) (by kernel_rfl) (getAt_el (ps:=[]) (e:=(eOw enc_api_Row)) (l:=z0) (n:=(z3.toNat)) (a:=a1) (c:=0) (by kernel_rfl) (lget_some h2).2 (by kernel_rfl)) (by kernel_rfl) (lget_some h4).2 (by kernel_rfl)) <|
 mIx 3 enc_api_Row h fun a5 h6 h=>
 mCalB 2 h (fun _ h=>h) (fun _ h=>
 mIyf 7 (eOw enc_api_Row) h2 <|
 mLd 0 (eOw enc_api_Row) h2 <|
 mIxf 3 enc_api_Row h6 <|
 h.elim fun h8 h=>
 mActL 2 (app2 (x:=(.tmp 40)) (y:=(.tmp 46)) (t:=23) (u:=23) (et:=82) (z:=.agg [.lit (.int .i64 0),.own []]) (k:=2) (c:=32) (e:=enc_api_Row) (l:=a1) (m:=[a5]) (by kernel_rfl) (by kernel_rfl) (by kernel_rfl) (by kernel_rfl) (by kernel_rfl) (take_el (s:=5) (ps:=[]) (n:=(z3.toNat)) (c:=0) (e:=(eOw enc_api_Row)) (l:=z0) (a:=a1) (by kernel_rfl) (by kernel_rfl) (lget_some h2).2 (by kernel_rfl) (by kernel_rfl) (setG_eq (by kernel_rfl))) (by kernel_rfl) (by kernel_rfl) (by kernel_rfl) (by kernel_rfl) (by kernel_rfl) (fun _=>rfl) h8) <|
 mVl 0 (val_idx_hole (s:=5) (ps:=[]) (cs:=[.undef]) (t:=67) (x:=(.tmp 35)) (ix:=(.tmp 36)) (et:=23) (k:=1) (e:=(eOw enc_api_Row)) (l:=z0) (i:=z3) (q:=.i64) (a:=a1) (by kernel_rfl) (by kernel_rfl) (by kernel_rfl) (by kernel_rfl) (by kernel_rfl) (by kernel_rfl) h2 (by kernel_rfl)) <|
 mOp 0 (store2 (t:=23) (x:=(.tmp 48)) (y:=(.tmp 47)) (s:=5) (ps:=[]) (n:=(z3.toNat)) (e:=(eOw enc_api_Row)) (l:=z0) (a:=a1) (b:=(a1++[a5])) (k:=1) (cs:=[.undef]) (d:=.own (((a1++[a5])).map enc_api_Row)) (by kernel_rfl) (by kernel_rfl) (by kernel_rfl) (by kernel_rfl) (lget_some h2).2 (by kernel_rfl) (by kernel_rfl) (by kernel_rfl) (by kernel_rfl) (by kernel_rfl) (setG_eq (by kernel_rfl))) <|
 mFin 4 h) fun _ h=>
 mFin 3 h) fun h=>
 mAsk 4 h id fls (fun h=>
 mFin 4 h) fun h=>
 mIx 8 enc_api_Row h fun a9 h10 h=>
 mApp 3 (eOw enc_api_Row) z0 ([[a9]]) h fun h=>
 mFin 2 h
theorem L3_step (x0:api_Table) (x1:Int) (z0:List (List api_Row)) (z1:Int) (z2:Bool) (z3:Int) (φ:List (List api_Row)→Prop) (h :
 drossref51_Blocks.L2 x0 x1 z0 z1 z2 ((IntKind.wrap .i64 (z3+1))) φ):L3 x0 x1 z0 z1 z2 z3 φ:=
 mIn <|
 mFin 5 h
theorem L4_step (x0:api_Table) (x1:Int) (z0:List (List api_Row)) (z1:Int) (φ:List (List api_Row)→Prop) (h :
 drossref51_Blocks.L1 x0 x1 z0 ((IntKind.wrap .i64 (z1+1))) φ):L4 x0 x1 z0 z1 φ:=
 mIn <|
 mFin 5 h
theorem enter (x0:api_Table) (x1:Int) (φ:List (List api_Row)→Prop) (h :
 drossref51_Blocks.L1 x0 x1 ([]) 0 φ):∃ r,φ r∧C x0 x1 r:=
 mEnt (fd:=Tryz.f39) (body:=B) (V:=W) (res:=res) <|
 mFin 10 h
end drossref51_Blocks
end Go.Own
namespace Go.Own
open Go.Proofs D
set_option maxRecDepth 100000
set_option maxHeartbeats 4000000
namespace drossref03_Listed
noncomputable def B:Code:=(Tryz.f66.body).getD .skip
def W:List Nat:=[0,1,4,5,9,18]
def res (r:Bool):D×List D:=(.lit (.bool r),[])
def C (x0:List api_Row) (x1:List api_Value) (r:Bool):Prop:=Ret env 66 [.sl (x0.map enc_api_Row),.sl (x1.map enc_api_Value)] (res r).1 (res r).2
def L1 (x0:List api_Row) (x1:List api_Value) (z0:Int) (φ:Bool→Prop):Prop:=Pt env 66 W B [1,0,1,0] [(0,.sl (x0.map enc_api_Row)),(1,.sl (x1.map enc_api_Value)),(5,.lit (.int .i64 z0))] (Lv env 66 Tryz.f66 2 res φ)
theorem L1_step (x0:List api_Row) (x1:List api_Value) (z0:Int) (φ:Bool→Prop) (h :
 (if z0<(x0.length:Int) then
 ∃ a1,lget x0 z0=some a1 ∧
 ∃ r3:Bool,drossref01_Same.C a1.Values x1 r3 ∧
 (if r3=true then
 φ true
 else
 drossref03_Listed.L1 x0 x1 ((IntKind.wrap .i64 (z0+1))) φ)
 else
 φ false)):L1 x0 x1 z0 φ:=
 mIn <|
 mLen 4 enc_api_Row x0 <|
 mAsk 0 h dT dF (fun h=>
 mIx 6 enc_api_Row h fun a1 h2 h=>
 mCalB (A:=fun _=>φ true) 3 h (fun _ h=>h) (fun _ h=>
 mRet 5 h) fun _ h=>
 mFin 8 h) fun h=>
 mRet 6 h
theorem enter (x0:List api_Row) (x1:List api_Value) (φ:Bool→Prop) (h :
 drossref03_Listed.L1 x0 x1 0 φ):∃ r,φ r∧C x0 x1 r:=
 mEnt (fd:=Tryz.f66) (body:=B) (V:=W) (res:=res) <|
 mFin 6 h
end drossref03_Listed
end Go.Own
namespace Go.Own
open Go.Proofs D
set_option maxRecDepth 100000
set_option maxHeartbeats 4000000
namespace drossref51_with
noncomputable def B:Code:=(Tryz.f40.body).getD .skip
def W:List Nat:=[0,1,4,5,6,7,8,9,13,19,30,40,53]
def res (r:List (List api_Row)):D×List D:=(.own (r.map (eOw enc_api_Row)),[])
def C (x0:List (List api_Row)) (x1:List api_Row) (r:List (List api_Row)):Prop:=Ret env 40 [.sl (x0.map (eSl enc_api_Row)),.sl (x1.map enc_api_Row)] (res r).1 (res r).2
def L1 (x0:List (List api_Row)) (x1:List api_Row) (z0:List (List api_Row)) (z1:Int) (φ:List (List api_Row)→Prop):Prop:=Pt env 40 W B [1,1,0,1,0] [(0,.sl (x0.map (eSl enc_api_Row))),(1,.sl (x1.map enc_api_Row)),(5,.own (z0.map (eOw enc_api_Row))),(6,.lit (.int .i64 z1))] (Lv env 40 Tryz.f40 2 res φ)
def L2 (x0:List (List api_Row)) (x1:List api_Row) (z0:List (List api_Row)) (z1 z2:Int) (φ:List (List api_Row)→Prop):Prop:=Pt env 40 W B [1,1,0,1,0,0,1,0,0,1,0] [(0,.sl (x0.map (eSl enc_api_Row))),(1,.sl (x1.map enc_api_Row)),(5,.own (z0.map (eOw enc_api_Row))),(6,.lit (.int .i64 z1)),(7,.lit (.int .i64 z2))] (Lv env 40 Tryz.f40 2 res φ)
def L5 (x0:List (List api_Row)) (x1:List api_Row) (z0:List (List api_Row)) (z1 z2:Int) (φ:List (List api_Row)→Prop):Prop:=Pt env 40 W B [1,1,0,1,0,0,1,0,0,1,0,0,1,1] [(0,.sl (x0.map (eSl enc_api_Row))),(1,.sl (x1.map enc_api_Row)),(5,.own (z0.map (eOw enc_api_Row))),(6,.lit (.int .i64 z1)),(7,.lit (.int .i64 z2))] (Lv env 40 Tryz.f40 2 res φ)
def L3 (x0:List (List api_Row)) (x1:List api_Row) (z0:List (List api_Row)) (z1 z2:Int) (a6:List api_Row) (z3:Int) (φ:List (List api_Row)→Prop):Prop:=Pt env 40 W B [1,1,0,1,0,0,1,0,0,1,0,0,1,0,0,1,1,0,1,0] [(0,.sl (x0.map (eSl enc_api_Row))),(1,.sl (x1.map enc_api_Row)),(5,.own (z0.map (eOw enc_api_Row))),(6,.lit (.int .i64 z1)),(7,.lit (.int .i64 z2)),(8,.own (a6.map enc_api_Row)),(9,.lit (.int .i64 z3))] (Lv env 40 Tryz.f40 2 res φ)
def L4 (x0:List (List api_Row)) (x1:List api_Row) (z0:List (List api_Row)) (z1 z2:Int) (z3:List api_Row) (z4:Int) (φ:List (List api_Row)→Prop):Prop:=Pt env 40 W B [1,1,0,1,0,0,1,0,0,1,0,0,1,0,0,1,1,0,1,0,0,1,1] [(0,.sl (x0.map (eSl enc_api_Row))),(1,.sl (x1.map enc_api_Row)),(5,.own (z0.map (eOw enc_api_Row))),(6,.lit (.int .i64 z1)),(7,.lit (.int .i64 z2)),(8,.own (z3.map enc_api_Row)),(9,.lit (.int .i64 z4))] (Lv env 40 Tryz.f40 2 res φ)
theorem L1_step (x0:List (List api_Row)) (x1:List api_Row) (z0:List (List api_Row)) (z1:Int) (φ:List (List api_Row)→Prop) (h :
 (if z1<(x0.length:Int) then
 drossref51_with.L2 x0 x1 z0 z1 0 φ
 else
 φ z0)):L1 x0 x1 z0 z1 φ:=
 mIn <|
 mLen 4 (eSl enc_api_Row) x0 <|
 mAsk 0 h dT dF (fun h=>
 mFin 6 h) fun h=>
 mRet 7 h
theorem L2_step (x0:List (List api_Row)) (x1:List api_Row) (z0:List (List api_Row)) (z1 z2:Int) (φ:List (List api_Row)→Prop) (h :
 (if z2<(x1.length:Int) then
 0≤z2 ∧
 (0≤z2.toNat∧z2.toNat≤x1.length) ∧
 ∃ a3,lget x1 z2=some a3 ∧
 ∃ r5:Bool,drossref03_Listed.C ((List.take (z2.toNat-0) x1)) a3.Values r5 ∧
 (if r5=true then
 drossref51_with.L5 x0 x1 z0 z1 z2 φ
 else
 ∃ a6,lget x0 z1=some a6 ∧
 (0+a6.length)*32≤140737488355328 ∧
 drossref51_with.L3 x0 x1 z0 z1 z2 a6 0 φ)
 else
 drossref51_with.L1 x0 x1 z0 ((IntKind.wrap .i64 (z1+1))) φ)):L2 x0 x1 z0 z1 z2 φ:=
 mIn <|
 mLen 4 enc_api_Row x1 <|
 mAsk 0 h dT dF (fun h=>
 h.elim fun h1 h=>
 h.elim fun h2 h=>
 mVl 6 (val_slice_sl (t:=23) (x:=(.tmp 22)) (lo:=none) (hi:=(some (.tmp 23))) (lo':=none) (hi':=some (z2).toNat) (e:=enc_api_Row) (l:=x1) (et:=82) (k:=2) (by kernel_rfl) (by kernel_rfl) optNat_none (optNat_some (i:=z2) (q:=.i64) (by kernel_rfl) h1) (by kernel_rfl) (by kernel_rfl) (fun _=>rfl) (by kernel_rfl) h2.1 h2.2) <|
 mIx 2 enc_api_Row h fun a3 h4 h=>
 mCalB 2 h (fun _ h=>h) (fun _ h=>
 mFin 3 h) fun _ h=>
 mIx 7 (eSl enc_api_Row) h fun a6 h7 h=>
 mApp 1 enc_api_Row ([]) a6 h fun h=>
 mFin 5 h) fun h=>
 mFin 8 h
theorem L5_step (x0:List (List api_Row)) (x1:List api_Row) (z0:List (List api_Row)) (z1 z2:Int) (φ:List (List api_Row)→Prop) (h :
 drossref51_with.L2 x0 x1 z0 z1 ((IntKind.wrap .i64 (z2+1))) φ):L5 x0 x1 z0 z1 z2 φ:=
 mIn <|
 mFin 5 h
theorem L3_step (x0:List (List api_Row)) (x1:List api_Row) (z0:List (List api_Row)) (z1 z2:Int) (a6:List api_Row) (z3:Int) (φ:List (List api_Row)→Prop) (h :
 (if z3<(x1.length:Int) then
 ∃ a9,lget x1 z3=some a9 ∧
 ∃ a11,lget x1 z2=some a11 ∧
 ∃ r13:Bool,drossref01_Same.C a9.Values a11.Values r13 ∧
 (if r13=true then
 (a6.length+1)*32≤140737488355328 ∧
 drossref51_with.L4 x0 x1 z0 z1 z2 ((a6++[a9])) z3 φ
 else
 drossref51_with.L4 x0 x1 z0 z1 z2 a6 z3 φ)
 else
 (z0.length+1)*24≤140737488355328 ∧
 drossref51_with.L5 x0 x1 ((z0++[a6])) z1 z2 φ)):L3 x0 x1 z0 z1 z2 a6 z3 φ:=
 mIn <|
 mLen 4 enc_api_Row x1 <|
 mAsk 0 h dT dF (fun h=>
 mIx 6 enc_api_Row h fun a9 h10 h=>
 mIx 4 enc_api_Row h fun a11 h12 h=>
 mCalB 2 h (fun _ h=>h) (fun _ h=>
 mIxf 6 enc_api_Row h10 <|
 mApp 2 enc_api_Row a6 ([a9]) h fun h=>
 mFin 2 h) fun _ h=>
 mFin 3 h) fun h=>
 mApp 7 (eOw enc_api_Row) z0 ([a6]) h fun h=>
 mFin 2 h
theorem L4_step (x0:List (List api_Row)) (x1:List api_Row) (z0:List (List api_Row)) (z1 z2:Int) (z3:List api_Row) (z4:Int) (φ:List (List api_Row)→Prop) (h :
 drossref51_with.L3 x0 x1 z0 z1 z2 z3 ((IntKind.wrap .i64 (z4+1))) φ):L4 x0 x1 z0 z1 z2 z3 z4 φ:=
 mIn <|
 mFin 5 h
theorem enter (x0:List (List api_Row)) (x1:List api_Row) (φ:List (List api_Row)→Prop) (h :
 drossref51_with.L1 x0 x1 ([]) 0 φ):∃ r,φ r∧C x0 x1 r:=
 mEnt (fd:=Tryz.f40) (body:=B) (V:=W) (res:=res) <|
 mFin 9 h
end drossref51_with
end Go.Own
namespace Go.Own
open Go.Proofs D
set_option maxRecDepth 100000
set_option maxHeartbeats 4000000
namespace drossref51_All
noncomputable def B:Code:=(Tryz.f20.body).getD .skip
def W:List Nat:=[0,1,2,4,5,6,7,15]
def res (r:List (List api_Row)):D×List D:=(.sl (r.map (eSl enc_api_Row)),[])
def C (x0:api_Table) (x1:Int) (r:List (List api_Row)):Prop:=Ret env 20 [.agg [.lit (.string x0.Name),.sl (x0.Attrs.map eS),.sl (x0.Rows.map enc_api_Row)],.lit (.int .u32 x1)] (res r).1 (res r).2
def L1 (z0 r1:List (List api_Row)) (z1:Int) (φ:List (List api_Row)→Prop):Prop:=Pt env 20 W B [1,1,1,0,1,0] [(5,.sl (z0.map (eSl enc_api_Row))),(6,.sl (r1.map (eSl enc_api_Row))),(7,.lit (.int .i64 z1))] (Lv env 20 Tryz.f20 2 res φ)
theorem L1_step (z0 r1:List (List api_Row)) (z1:Int) (φ:List (List api_Row)→Prop) (h :
 (if z1<(r1.length:Int) then
 ∃ a2,lget r1 z1=some a2 ∧
 ∃ r4:List (List api_Row),drossref51_with.C z0 a2 r4 ∧
 drossref51_All.L1 r4 r1 ((IntKind.wrap .i64 (z1+1))) φ
 else
 φ z0)):L1 z0 r1 z1 φ:=
 mIn <|
 mLen 4 (eSl enc_api_Row) r1 <|
 mAsk 0 h dT dF (fun h=>
 mIx 7 (eSl enc_api_Row) h fun a2 h3 h=>
 mCalE 1 h (fun _ h=>h) (fun (r4:List (List api_Row))=>cold_ow (l:=r4) (e:=(eOw enc_api_Row)) (e':=(eSl enc_api_Row)) rfl (Fzn.ow (fun _=>rfl))) (hf:=(fun _=>clF_both)) fun r4 _ h=>
 mFin 7 h) fun h=>
 mRet 7 h
theorem enter (x0:api_Table) (x1:Int) (φ:List (List api_Row)→Prop) (h :
 ∃ r1:List (List api_Row),drossref51_Blocks.C x0 x1 r1 ∧
 drossref51_All.L1 ([[]]) r1 0 φ):∃ r,φ r∧C x0 x1 r:=
 mEnt (fd:=Tryz.f20) (body:=B) (V:=W) (res:=res) <|
 mCalE 11 h (fun _ h=>h) (fun (r1:List (List api_Row))=>cold_ow (l:=r1) (e:=(eOw enc_api_Row)) (e':=(eSl enc_api_Row)) rfl (Fzn.ow (fun _=>rfl))) (hf:=(fun _=>clF_both)) fun r1 _ h=>
 mFin 5 h
end drossref51_All
end Go.Own
namespace Go.Own
open Go.Proofs D
set_option maxRecDepth 100000
set_option maxHeartbeats 4000000
namespace aggregate_empty_1
noncomputable def B:Code:=(Tryz.f59.body).getD .skip
def W:List Nat:=[0,1,2]
def res (r:Bool):D×List D:=(.lit (.bool r),[])
def C (x0:aggregate_group) (r:Bool):Prop:=Ret env 59 [.agg [.sl (x0.ids.map (eI .i64)),.lit (.bool x0.ok),.lit (.int .i64 x0.value.Kind),.lit (.int .i64 x0.value.Num),.lit (.string x0.value.Str),.lit (.int .i64 x0.sum.high),.lit (.int .i64 x0.sum.low)]] (res r).1 (res r).2
theorem enter (x0:aggregate_group) (φ:Bool→Prop) (h :
 φ ((not x0.ok))):∃ r,φ r∧C x0 r:=
 mEnt (fd:=Tryz.f59) (body:=B) (V:=W) (res:=res) <|
 mRet 10 h
end aggregate_empty_1
end Go.Own
namespace Go.Own
open Go.Proofs D
set_option maxRecDepth 100000
set_option maxHeartbeats 4000000
namespace slices_IndexFunc_saggregate_group_aggregate_group_aggregate_empty_1
noncomputable def B:Code:=(Tryz.f58.body).getD .skip
def W:List Nat:=[0,1,4,5,7,8,9,16]
def res (r:Int):D×List D:=(.lit (.int .i64 r),[])
def C (x0:List aggregate_group) (r:Int):Prop:=Ret env 58 [.sl (x0.map enc_aggregate_group_2),.fn 59 []] (res r).1 (res r).2
def L1 (x0:List aggregate_group) (z0:Int) (φ:Int→Prop):Prop:=Pt env 58 W B [1,0,1,0] [(0,.sl (x0.map enc_aggregate_group_2)),(1,.fn 59 []),(7,.lit (.int .i64 ((x0.length:Int)))),(8,.lit (.int .i64 z0))] (Lv env 58 Tryz.f58 2 res φ)
theorem L1_step (x0:List aggregate_group) (z0:Int) (φ:Int→Prop) (h :
 (if z0<(x0.length:Int) then
 ∃ a1,lget x0 z0=some a1 ∧
 ∃ r3:Bool,aggregate_empty_1.C a1 r3 ∧
 (if r3=true then
 φ z0
 else
 slices_IndexFunc_saggregate_group_aggregate_group_aggregate_empty_1.L1 x0 ((IntKind.wrap .i64 (z0+1))) φ)
 else
 φ ((-1)))):L1 x0 z0 φ:=
 mIn <|
 mAsk 2 h dT dF (fun h=>
 mIx 11 enc_aggregate_group_2 h fun a1 h2 h=>
 mCalB 1 h (fun _ h=>h) (fun _ h=>
 mRet 6 h) fun _ h=>
 mFin 7 h) fun h=>
 mRet 6 h
theorem enter (x0:List aggregate_group) (φ:Int→Prop) (h :
 slices_IndexFunc_saggregate_group_aggregate_group_aggregate_empty_1.L1 x0 0 φ):∃ r,φ r∧C x0 r:=
 mEnt (fd:=Tryz.f58) (body:=B) (V:=W) (res:=res) <|
 mLen 5 enc_aggregate_group_2 x0 <|
 mFin 2 h
end slices_IndexFunc_saggregate_group_aggregate_group_aggregate_empty_1
end Go.Own
namespace Go.Own
open Go.Proofs D
set_option maxRecDepth 100000
set_option maxHeartbeats 4000000
namespace aggregate_empty
noncomputable def B:Code:=(Tryz.f34.body).getD .skip
def W:List Nat:=[0,2,3,4,8]
def res (r:aggregate_group×Bool):D×List D:=(.tup [.agg [.sl (r.1.ids.map (eI .i64)),.lit (.bool r.1.ok),.lit (.int .i64 r.1.value.Kind),.lit (.int .i64 r.1.value.Num),.lit (.string r.1.value.Str),.lit (.int .i64 r.1.sum.high),.lit (.int .i64 r.1.sum.low)],.lit (.bool r.2)],[])
def C (x0:List aggregate_group) (r:aggregate_group×Bool):Prop:=Ret env 34 [.sl (x0.map enc_aggregate_group_2)] (res r).1 (res r).2
theorem enter (x0:List aggregate_group) (φ:aggregate_group×Bool→Prop) (h :
 ∃ r1:Int,slices_IndexFunc_saggregate_group_aggregate_group_aggregate_empty_1.C x0 r1 ∧
 (if r1<0 then
 φ (((⟨[],false,(⟨0,0,(⟨#[]⟩:ByteArray)⟩:api_Value),(⟨0,0⟩:aggregate_total)⟩:aggregate_group),false))
 else
 ∃ a2,lget x0 r1=some a2 ∧
 φ ((a2,true)))):∃ r,φ r∧C x0 r:=
 mEnt (fd:=Tryz.f34) (body:=B) (V:=W) (res:=res) <|
 mCal 6 h (fun _ h=>h) fun r1 _ h=>
 mAsk 4 h dT dF (fun h=>
 mRet 7 h) fun h=>
 mIx 6 enc_aggregate_group_2 h fun a2 h3 h=>
 mRet 4 h
end aggregate_empty
end Go.Own
namespace Go.Own
open Go.Proofs D
set_option maxRecDepth 100000
set_option maxHeartbeats 4000000
namespace drossref51_chosen
noncomputable def B:Code:=(Tryz.f22.body).getD .skip
def W:List Nat:=[0,1,4]
def res (r:List api_Row):D×List D:=(.own (r.map enc_api_Row),[])
def C (x0:List api_Row) (x1:List api_Condition) (r:List api_Row):Prop:=Ret env 22 [.sl (x0.map enc_api_Row),.sl (x1.map enc_api_Condition)] (res r).1 (res r).2
theorem enter (x0:List api_Row) (x1:List api_Condition) (φ:List api_Row→Prop) (h :
 ∃ r1:List api_Row,drossref51_Rows.C ((⟨(⟨#[]⟩:ByteArray),[],x0⟩:api_Table)) x1 r1 ∧
 φ r1):∃ r,φ r∧C x0 x1 r:=
 mEnt (fd:=Tryz.f22) (body:=B) (V:=W) (res:=res) <|
 mCalW 7 h (fun _ h=>h) (hr:=by exact (pr_snap (snap_agg (snaps_cons (d:=.lit (.string ((⟨#[]⟩:ByteArray)))) (d':=.lit (.string ((⟨#[]⟩:ByteArray)))) (by kernel_rfl) (snaps_cons (d:=.alias 6 [(0,1)]) (d':=.sl []) (snap_ow (s:=6) (ps:=[(0,1)]) (l:=[]) (e:=eS) (e':=eS) (fun _=>rfl) (by kernel_rfl)) (snaps_cons (d:=.sl (x0.map enc_api_Row)) (d':=.sl (x0.map enc_api_Row)) (by kernel_rfl) snaps_nil)))) (pr_k pr_nil))) (k:=fun r1 _ h=>
 mRet 2 h)
 (k2:=fun r1 _ h=>
 mRet 2 h)
end drossref51_chosen
end Go.Own
namespace Go.Own
open Go.Proofs D
set_option maxRecDepth 100000
set_option maxHeartbeats 4000000
namespace aggregate_inner
noncomputable def B:Code:=(Tryz.f54.body).getD .skip
def W:List Nat:=[0,1,4,5,6,7,8,9,10,11,12,13,14,15,16,17,18,19,20,35,60,74]
def res (r:List aggregate_group×Bool):D×List D:=(.tup [.own (r.1.map enc_aggregate_group_2),.lit (.bool r.2)],[])
def C (x0:List (List aggregate_group)) (x1:Bool) (r:List aggregate_group×Bool):Prop:=Ret env 54 [.sl (x0.map (eSl enc_aggregate_group_2)),.lit (.bool x1)] (res r).1 (res r).2
def L1 (x0:List (List aggregate_group)) (x1:Bool) (z0:List aggregate_group) (z1:Bool) (z2:Int) (z3:List Int) (z4:Bool) (z5 z6:Int) (z7:ByteArray) (z8 z9 z10:Int) (φ:List aggregate_group×Bool→Prop):Prop:=Pt env 54 W B [1,1,1,1,0,1,0] [(0,.sl (x0.map (eSl enc_aggregate_group_2))),(1,.lit (.bool x1)),(6,.own (z0.map enc_aggregate_group_2)),(7,.lit (.bool z1)),(8,.lit (.int .i64 z2)),(9,.box [.sl (z3.map (eI .i64)),.lit (.bool z4),.lit (.int .i64 z5),.lit (.int .i64 z6),.lit (.string z7),.lit (.int .i64 z8),.lit (.int .i64 z9)]),(17,.sl (x0.map (eSl enc_aggregate_group_2))),(18,.lit (.int .i64 ((x0.length:Int)))),(19,.lit (.int .i64 z10))] (Lv env 54 Tryz.f54 2 res φ)
def L2 (x0:List (List aggregate_group)) (x1:Bool) (z0:List aggregate_group) (z1:Bool) (z2:List Int) (z3:Bool) (z4 z5:Int) (z6:ByteArray) (z7 z8 z9:Int) (r3 r4:aggregate_group×Bool) (φ:List aggregate_group×Bool→Prop):Prop:=Pt env 54 W B [1,1,1,1,0,1,0,0,1,1,0,0,1,1,0,1,1,0,0,1,1,0] [(0,.sl (x0.map (eSl enc_aggregate_group_2))),(1,.lit (.bool x1)),(6,.own (z0.map enc_aggregate_group_2)),(7,.lit (.bool z1)),(9,.box [.sl (z2.map (eI .i64)),.lit (.bool z3),.lit (.int .i64 z4),.lit (.int .i64 z5),.lit (.string z6),.lit (.int .i64 z7),.lit (.int .i64 z8)]),(10,.lit (.int .i64 z9)),(12,.box [.sl (r3.1.ids.map (eI .i64)),.lit (.bool r3.1.ok),.lit (.int .i64 r3.1.value.Kind),.lit (.int .i64 r3.1.value.Num),.lit (.string r3.1.value.Str),.lit (.int .i64 r3.1.sum.high),.lit (.int .i64 r3.1.sum.low)]),(14,.box [.sl (r4.1.ids.map (eI .i64)),.lit (.bool r4.1.ok),.lit (.int .i64 r4.1.value.Kind),.lit (.int .i64 r4.1.value.Num),.lit (.string r4.1.value.Str),.lit (.int .i64 r4.1.sum.high),.lit (.int .i64 r4.1.sum.low)]),(17,.sl (x0.map (eSl enc_aggregate_group_2))),(18,.lit (.int .i64 ((x0.length:Int)))),(19,.lit (.int .i64 z9))] (Lv env 54 Tryz.f54 2 res φ)
def L3 (x0:List (List aggregate_group)) (x1:Bool) (z0:List aggregate_group) (z1:Bool) (z2:Int) (z3:List Int) (z4:Bool) (z5 z6:Int) (z7:ByteArray) (z8 z9:Int) (r3 r4:aggregate_group×Bool) (z10:Int) (φ:List aggregate_group×Bool→Prop):Prop:=Pt env 54 W B [1,1,1,1,0,1,0,0,1,1,0,0,1,1,0,1,1,0,1] [(0,.sl (x0.map (eSl enc_aggregate_group_2))),(1,.lit (.bool x1)),(6,.own (z0.map enc_aggregate_group_2)),(7,.lit (.bool z1)),(8,.lit (.int .i64 z2)),(9,.box [.sl (z3.map (eI .i64)),.lit (.bool z4),.lit (.int .i64 z5),.lit (.int .i64 z6),.lit (.string z7),.lit (.int .i64 z8),.lit (.int .i64 z9)]),(12,.box [.sl (r3.1.ids.map (eI .i64)),.lit (.bool r3.1.ok),.lit (.int .i64 r3.1.value.Kind),.lit (.int .i64 r3.1.value.Num),.lit (.string r3.1.value.Str),.lit (.int .i64 r3.1.sum.high),.lit (.int .i64 r3.1.sum.low)]),(14,.box [.sl (r4.1.ids.map (eI .i64)),.lit (.bool r4.1.ok),.lit (.int .i64 r4.1.value.Kind),.lit (.int .i64 r4.1.value.Num),.lit (.string r4.1.value.Str),.lit (.int .i64 r4.1.sum.high),.lit (.int .i64 r4.1.sum.low)]),(17,.sl (x0.map (eSl enc_aggregate_group_2))),(18,.lit (.int .i64 ((x0.length:Int)))),(19,.lit (.int .i64 z10))] (Lv env 54 Tryz.f54 2 res φ)
def L5 (x0:List (List aggregate_group)) (x1:Bool) (z0:List aggregate_group) (z1:Bool) (z2:Int) (z3:List Int) (z4:Bool) (z5 z6:Int) (z7:ByteArray) (z8 z9:Int) (r3:aggregate_group×Bool) (z10:Int) (φ:List aggregate_group×Bool→Prop):Prop:=Pt env 54 W B [1,1,1,1,0,1,0,0,1,1,0,0,1,1,1] [(0,.sl (x0.map (eSl enc_aggregate_group_2))),(1,.lit (.bool x1)),(6,.own (z0.map enc_aggregate_group_2)),(7,.lit (.bool z1)),(8,.lit (.int .i64 z2)),(9,.box [.sl (z3.map (eI .i64)),.lit (.bool z4),.lit (.int .i64 z5),.lit (.int .i64 z6),.lit (.string z7),.lit (.int .i64 z8),.lit (.int .i64 z9)]),(12,.box [.sl (r3.1.ids.map (eI .i64)),.lit (.bool r3.1.ok),.lit (.int .i64 r3.1.value.Kind),.lit (.int .i64 r3.1.value.Num),.lit (.string r3.1.value.Str),.lit (.int .i64 r3.1.sum.high),.lit (.int .i64 r3.1.sum.low)]),(17,.sl (x0.map (eSl enc_aggregate_group_2))),(18,.lit (.int .i64 ((x0.length:Int)))),(19,.lit (.int .i64 z10))] (Lv env 54 Tryz.f54 2 res φ)
def L4 (z0:List aggregate_group) (z1:Bool) (z2:Int) (φ:List aggregate_group×Bool→Prop):Prop:=Pt env 54 W B [1,1,1,1,1,1,0] [(6,.own (z0.map enc_aggregate_group_2)),(7,.lit (.bool z1)),(8,.lit (.int .i64 z2))] (Lv env 54 Tryz.f54 2 res φ)
theorem L1_step (x0:List (List aggregate_group)) (x1:Bool) (z0:List aggregate_group) (z1:Bool) (z2:Int) (z3:List Int) (z4:Bool) (z5 z6:Int) (z7:ByteArray) (z8 z9 z10:Int) (φ:List aggregate_group×Bool→Prop) (h :
 (if z10<(x0.length:Int) then
 ∃ a1,lget x0 z10=some a1 ∧
 ∃ r3:aggregate_group×Bool,aggregate_pick.C a1 x1 r3 ∧
 ∃ r4:aggregate_group×Bool,aggregate_empty.C a1 r4 ∧
 (if r4.2=true then
 ∃ r5:Int,value_Compare.C r3.1.value ((⟨z5,z6,z7⟩:api_Value)) r5 ∧
 (if r3.2=true then
 (if z2<0 then
 aggregate_inner.L2 x0 x1 z0 z1 z3 z4 z5 z6 z7 z8 z9 z10 r3 r4 φ
 else
 (if x1=true then
 (if 0<r5 then
 aggregate_inner.L2 x0 x1 z0 z1 z3 z4 z5 z6 z7 z8 z9 z10 r3 r4 φ
 else
 (if x1=true then
 aggregate_inner.L3 x0 x1 z0 z1 z2 z3 z4 z5 z6 z7 z8 z9 r3 r4 z10 φ
 else
 (if r5<0 then
 aggregate_inner.L2 x0 x1 z0 z1 z3 z4 z5 z6 z7 z8 z9 z10 r3 r4 φ
 else
 aggregate_inner.L3 x0 x1 z0 z1 z2 z3 z4 z5 z6 z7 z8 z9 r3 r4 z10 φ)))
 else
 (if x1=true then
 aggregate_inner.L3 x0 x1 z0 z1 z2 z3 z4 z5 z6 z7 z8 z9 r3 r4 z10 φ
 else
 (if r5<0 then
 aggregate_inner.L2 x0 x1 z0 z1 z3 z4 z5 z6 z7 z8 z9 z10 r3 r4 φ
 else
 aggregate_inner.L3 x0 x1 z0 z1 z2 z3 z4 z5 z6 z7 z8 z9 r3 r4 z10 φ))))
 else
 aggregate_inner.L3 x0 x1 z0 z1 z2 z3 z4 z5 z6 z7 z8 z9 r3 r4 z10 φ)
 else
 aggregate_inner.L5 x0 x1 z0 true z2 z3 z4 z5 z6 z7 z8 z9 r3 z10 φ)
 else
 (if z1=true then
 aggregate_inner.L4 z0 z1 z2 φ
 else
 (if 0≤z2 then
 ∃ a6,lget z0 z2=some a6 ∧
 aggregate_inner.L4 ((lset z0 z2 (⟨z3,z4,(⟨z5,z6,z7⟩:api_Value),(⟨z8,z9⟩:aggregate_total)⟩:aggregate_group))) z1 z2 φ
 else
 aggregate_inner.L4 z0 z1 z2 φ)))):L1 x0 x1 z0 z1 z2 z3 z4 z5 z6 z7 z8 z9 z10 φ:=
 mIn <|
 mAsk 2 h dT dF (fun h=>
 mIx 5 (eSl enc_aggregate_group_2) h fun a1 h2 h=>
 mCal 7 h (fun _ h=>h) (hf:=(fun _=>clF_both)) fun r3 _ h=>
 mCal 9 h (fun _ h=>h) (hf:=(fun _=>clF_both)) fun r4 _ h=>
 mAsk 8 h id fls (fun h=>
 mCal 7 h (fun _ h=>h) fun r5 _ h=>
 mAsk 3 h id fls (fun h=>
 mAsk 2 h dT dF (fun h=>
 mFin 18 h) fun h=>
 mAsk 1 h id fls (fun h=>
 mAsk 2 h dT dF (fun h=>
 mFin 13 h) fun h=>
 mAsk 3 h id fls (fun h=>
 mFin 10 h) fun h=>
 mAsk 3 h dT dF (fun h=>
 mFin 5 h) fun h=>
 mFin 6 h) fun h=>
 mAsk 6 h id fls (fun h=>
 mFin 10 h) fun h=>
 mAsk 3 h dT dF (fun h=>
 mFin 5 h) fun h=>
 mFin 6 h) fun h=>
 mFin 22 h) fun h=>
 mFin 5 h) fun h=>
 mAsk 4 h id fls (fun h=>
 mFin 8 h) fun h=>
 mAsk 3 h dT dF (fun h=>
 mIy 7 enc_aggregate_group_2 h fun a6 h7 h=>
 mSto 0 enc_aggregate_group_2 ((⟨z3,z4,(⟨z5,z6,z7⟩:api_Value),(⟨z8,z9⟩:aggregate_total)⟩:aggregate_group)) h7 <|
 mFin 1 h) fun h=>
 mFin 4 h
theorem L2_step (x0:List (List aggregate_group)) (x1:Bool) (z0:List aggregate_group) (z1:Bool) (z2:List Int) (z3:Bool) (z4 z5:Int) (z6:ByteArray) (z7 z8 z9:Int) (r3 r4:aggregate_group×Bool) (φ:List aggregate_group×Bool→Prop) (h :
 aggregate_inner.L3 x0 x1 z0 z1 z9 r3.1.ids r3.1.ok r3.1.value.Kind r3.1.value.Num r3.1.value.Str r3.1.sum.high r3.1.sum.low r3 r4 z9 φ):L2 x0 x1 z0 z1 z2 z3 z4 z5 z6 z7 z8 z9 r3 r4 φ:=
 mIn <|
 mFin 6 h
theorem L3_step (x0:List (List aggregate_group)) (x1:Bool) (z0:List aggregate_group) (z1:Bool) (z2:Int) (z3:List Int) (z4:Bool) (z5 z6:Int) (z7:ByteArray) (z8 z9:Int) (r3 r4:aggregate_group×Bool) (z10:Int) (φ:List aggregate_group×Bool→Prop) (h :
 aggregate_inner.L5 x0 x1 z0 z1 z2 z3 z4 z5 z6 z7 z8 z9 r4 z10 φ):L3 x0 x1 z0 z1 z2 z3 z4 z5 z6 z7 z8 z9 r3 r4 z10 φ:=
 mIn <|
 mFin 4 h
theorem L5_step (x0:List (List aggregate_group)) (x1:Bool) (z0:List aggregate_group) (z1:Bool) (z2:Int) (z3:List Int) (z4:Bool) (z5 z6:Int) (z7:ByteArray) (z8 z9:Int) (r3:aggregate_group×Bool) (z10:Int) (φ:List aggregate_group×Bool→Prop) (h :
 (z0.length+1)*80≤140737488355328 ∧
 aggregate_inner.L1 x0 x1 ((z0++[r3.1])) z1 z2 z3 z4 z5 z6 z7 z8 z9 ((IntKind.wrap .i64 (z10+1))) φ):L5 x0 x1 z0 z1 z2 z3 z4 z5 z6 z7 z8 z9 r3 z10 φ:=
 mIn <|
 mApp 4 enc_aggregate_group_2 z0 ([r3.1]) h fun h=>
 mFin 6 h
theorem L4_step (z0:List aggregate_group) (z1:Bool) (z2:Int) (φ:List aggregate_group×Bool→Prop) (h :
 (if z1=true then
 φ ((z0,true))
 else
 φ ((z0,(decide (0≤z2)))))):L4 z0 z1 z2 φ:=
 mIn <|
 mAsk 2 h id fls (fun h=>
 mRet 7 h) fun h=>
 mRet 7 h
theorem enter (x0:List (List aggregate_group)) (x1:Bool) (φ:List aggregate_group×Bool→Prop) (h :
 aggregate_inner.L1 x0 x1 ([]) false ((-1)) ([]) false 0 0 ((⟨#[]⟩:ByteArray)) 0 0 0 φ):∃ r,φ r∧C x0 x1 r:=
 mEnt (fd:=Tryz.f54) (body:=B) (V:=W) (res:=res) <|
 mLen 16 (eSl enc_aggregate_group_2) x0 <|
 mFin 2 h
end aggregate_inner
end Go.Own
namespace Go.Own
open Go.Proofs D
set_option maxRecDepth 100000
set_option maxHeartbeats 4000000
namespace aggregate_outer
noncomputable def B:Code:=(Tryz.f53.body).getD .skip
def W:List Nat:=[0,1,4,5,6,7,9,10,11,12,13,14,15,25]
def res (r:List aggregate_group×Bool):D×List D:=(.tup [.own (r.1.map enc_aggregate_group_2),.lit (.bool r.2)],[])
def C (x0:List (List aggregate_group)) (x1:Bool) (r:List aggregate_group×Bool):Prop:=Ret env 53 [.sl (x0.map (eSl enc_aggregate_group_2)),.lit (.bool x1)] (res r).1 (res r).2
def L1 (x0:List (List aggregate_group)) (x1:Bool) (z0:List aggregate_group) (z1:Bool) (z2:Int) (φ:List aggregate_group×Bool→Prop):Prop:=Pt env 53 W B [1,1,1,0,1,0] [(0,.sl (x0.map (eSl enc_aggregate_group_2))),(1,.lit (.bool x1)),(6,.own (z0.map enc_aggregate_group_2)),(7,.lit (.bool z1)),(12,.sl (x0.map (eSl enc_aggregate_group_2))),(13,.lit (.int .i64 ((x0.length:Int)))),(14,.lit (.int .i64 z2))] (Lv env 53 Tryz.f53 2 res φ)
def L3 (x0:List (List aggregate_group)) (x1:Bool) (z0:List aggregate_group) (z1:Bool) (z2:List Int) (z3:Bool) (z4 z5:Int) (z6:ByteArray) (z7 z8:Int) (r3:aggregate_group×Bool) (z9:Int) (φ:List aggregate_group×Bool→Prop):Prop:=Pt env 53 W B [1,1,1,0,1,0,0,1,1,0,0,1,1,1,0] [(0,.sl (x0.map (eSl enc_aggregate_group_2))),(1,.lit (.bool x1)),(6,.own (z0.map enc_aggregate_group_2)),(7,.lit (.bool z1)),(10,.box [.sl (z2.map (eI .i64)),.lit (.bool z3),.lit (.int .i64 z4),.lit (.int .i64 z5),.lit (.string z6),.lit (.int .i64 z7),.lit (.int .i64 z8)]),(11,.lit (.bool r3.2)),(12,.sl (x0.map (eSl enc_aggregate_group_2))),(13,.lit (.int .i64 ((x0.length:Int)))),(14,.lit (.int .i64 z9))] (Lv env 53 Tryz.f53 2 res φ)
def L2 (x0:List (List aggregate_group)) (x1:Bool) (z0:List aggregate_group) (z1:Bool) (z2:List Int) (z3:Bool) (z4 z5:Int) (z6:ByteArray) (z7 z8 z9:Int) (φ:List aggregate_group×Bool→Prop):Prop:=Pt env 53 W B [1,1,1,0,1,0,0,1,1,0,0,1,1,1,1] [(0,.sl (x0.map (eSl enc_aggregate_group_2))),(1,.lit (.bool x1)),(6,.own (z0.map enc_aggregate_group_2)),(7,.lit (.bool z1)),(10,.box [.sl (z2.map (eI .i64)),.lit (.bool z3),.lit (.int .i64 z4),.lit (.int .i64 z5),.lit (.string z6),.lit (.int .i64 z7),.lit (.int .i64 z8)]),(12,.sl (x0.map (eSl enc_aggregate_group_2))),(13,.lit (.int .i64 ((x0.length:Int)))),(14,.lit (.int .i64 z9))] (Lv env 53 Tryz.f53 2 res φ)
theorem L1_step (x0:List (List aggregate_group)) (x1:Bool) (z0:List aggregate_group) (z1:Bool) (z2:Int) (φ:List aggregate_group×Bool→Prop) (h :
 (if z2<(x0.length:Int) then
 ∃ a1,lget x0 z2=some a1 ∧
 ∃ r3:aggregate_group×Bool,aggregate_pick.C a1 x1 r3 ∧
 (if r3.2=true then
 aggregate_outer.L3 x0 x1 z0 z1 r3.1.ids r3.1.ok r3.1.value.Kind r3.1.value.Num r3.1.value.Str r3.1.sum.high r3.1.sum.low r3 z2 φ
 else
 ∃ a4,lget a1 0=some a4 ∧
 aggregate_outer.L3 x0 x1 z0 z1 a4.ids a4.ok a4.value.Kind a4.value.Num a4.value.Str a4.sum.high a4.sum.low r3 z2 φ)
 else
 φ ((z0,z1)))):L1 x0 x1 z0 z1 z2 φ:=
 mIn <|
 mAsk 2 h dT dF (fun h=>
 mIx 4 (eSl enc_aggregate_group_2) h fun a1 h2 h=>
 mCal 6 h (fun _ h=>h) (hf:=(fun _=>clF_both)) fun r3 _ h=>
 mAsk 8 h id fls (fun h=>
 mFin 4 h) fun h=>
 mIx 5 enc_aggregate_group_2 h fun a4 h5 h=>
 mFin 3 h) fun h=>
 mRet 9 h
theorem L3_step (x0:List (List aggregate_group)) (x1:Bool) (z0:List aggregate_group) (z1:Bool) (z2:List Int) (z3:Bool) (z4 z5:Int) (z6:ByteArray) (z7 z8:Int) (r3:aggregate_group×Bool) (z9:Int) (φ:List aggregate_group×Bool→Prop) (h :
 (if z1=true then
 aggregate_outer.L2 x0 x1 z0 true z2 z3 z4 z5 z6 z7 z8 z9 φ
 else
 aggregate_outer.L2 x0 x1 z0 r3.2 z2 z3 z4 z5 z6 z7 z8 z9 φ)):L3 x0 x1 z0 z1 z2 z3 z4 z5 z6 z7 z8 r3 z9 φ:=
 mIn <|
 mAsk 1 h id fls (fun h=>
 mFin 5 h) fun h=>
 mFin 5 h
theorem L2_step (x0:List (List aggregate_group)) (x1:Bool) (z0:List aggregate_group) (z1:Bool) (z2:List Int) (z3:Bool) (z4 z5:Int) (z6:ByteArray) (z7 z8 z9:Int) (φ:List aggregate_group×Bool→Prop) (h :
 (z0.length+1)*80≤140737488355328 ∧
 aggregate_outer.L1 x0 x1 ((z0++[(⟨z2,z3,(⟨z4,z5,z6⟩:api_Value),(⟨z7,z8⟩:aggregate_total)⟩:aggregate_group)])) z1 ((IntKind.wrap .i64 (z9+1))) φ):L2 x0 x1 z0 z1 z2 z3 z4 z5 z6 z7 z8 z9 φ:=
 mIn <|
 mApp 4 enc_aggregate_group_2 z0 ([(⟨z2,z3,(⟨z4,z5,z6⟩:api_Value),(⟨z7,z8⟩:aggregate_total)⟩:aggregate_group)]) h fun h=>
 mFin 6 h
theorem enter (x0:List (List aggregate_group)) (x1:Bool) (φ:List aggregate_group×Bool→Prop) (h :
 aggregate_outer.L1 x0 x1 ([]) false 0 φ):∃ r,φ r∧C x0 x1 r:=
 mEnt (fd:=Tryz.f53) (body:=B) (V:=W) (res:=res) <|
 mLen 12 (eSl enc_aggregate_group_2) x0 <|
 mFin 2 h
end aggregate_outer
end Go.Own
namespace Go.Own
open Go.Proofs D
set_option maxRecDepth 100000
set_option maxHeartbeats 4000000
namespace aggregate_total_less
noncomputable def B:Code:=(Tryz.f52.body).getD .skip
def W:List Nat:=[0,1,2,3,4]
def res (r:Bool):D×List D:=(.lit (.bool r),[])
def C (x0 x1:aggregate_total) (r:Bool):Prop:=Ret env 52 [.agg [.lit (.int .i64 x0.high),.lit (.int .i64 x0.low)],.agg [.lit (.int .i64 x1.high),.lit (.int .i64 x1.low)]] (res r).1 (res r).2
theorem enter (x0 x1:aggregate_total) (φ:Bool→Prop) (h :
 (if x0.high<x1.high then
 φ true
 else
 (if x0.high=x1.high then
 φ ((decide (x0.low<x1.low)))
 else
 φ false))):∃ r,φ r∧C x0 x1 r:=
 mEnt (fd:=Tryz.f52) (body:=B) (V:=W) (res:=res) <|
 mAsk 10 h dT dF (fun h=>
 mRet 16 h) fun h=>
 mAsk 5 h beq_t beq_f (fun h=>
 mRet 10 h) fun h=>
 mRet 10 h
end aggregate_total_less
end Go.Own
namespace Go.Own
open Go.Proofs D
set_option maxRecDepth 100000
set_option maxHeartbeats 4000000
namespace aggregate_extreme
noncomputable def B:Code:=(Tryz.f32.body).getD .skip
def W:List Nat:=[0,1,2,6,7,8,10,11,13,19,20,21,22,23,30,31,32,33,49,61]
def res (r:List aggregate_group×Bool):D×List D:=(.tup [.own (r.1.map enc_aggregate_group_2),.lit (.bool r.2)],[])
def C (x0:List (List aggregate_group)) (x1:Int) (x2:Bool) (r:List aggregate_group×Bool):Prop:=Ret env 32 [.sl (x0.map (eSl enc_aggregate_group_2)),.lit (.int .i64 x1),.lit (.bool x2)] (res r).1 (res r).2
def L2 (x0:List (List aggregate_group)) (x2:Bool) (φ:List aggregate_group×Bool→Prop):Prop:=Pt env 32 W B [1,0,1,0,0] [(0,.sl (x0.map (eSl enc_aggregate_group_2))),(2,.lit (.bool x2))] (Lv env 32 Tryz.f32 3 res φ)
def L1 (x0:List (List aggregate_group)) (x2:Bool) (z0:List aggregate_group) (z1:Int) (φ:List aggregate_group×Bool→Prop):Prop:=Pt env 32 W B [1,0,1,0,1,0,1,0] [(0,.sl (x0.map (eSl enc_aggregate_group_2))),(2,.lit (.bool x2)),(8,.own (z0.map enc_aggregate_group_2)),(20,.sl (x0.map (eSl enc_aggregate_group_2))),(21,.lit (.int .i64 ((x0.length:Int)))),(22,.lit (.int .i64 z1))] (Lv env 32 Tryz.f32 3 res φ)
def L3 (x0:List (List aggregate_group)) (x2:Bool) (z0 a3:List aggregate_group) (a5:aggregate_group) (z1 z2:Int) (φ:List aggregate_group×Bool→Prop):Prop:=Pt env 32 W B [1,0,1,0,1,0,1,0,0,1,1,0,0,1,1,0,1,0] [(0,.sl (x0.map (eSl enc_aggregate_group_2))),(2,.lit (.bool x2)),(8,.own (z0.map enc_aggregate_group_2)),(10,.sl (a3.map enc_aggregate_group_2)),(11,.box [.sl (a5.ids.map (eI .i64)),.lit (.bool a5.ok),.lit (.int .i64 a5.value.Kind),.lit (.int .i64 a5.value.Num),.lit (.string a5.value.Str),.lit (.int .i64 a5.sum.high),.lit (.int .i64 a5.sum.low)]),(20,.sl (x0.map (eSl enc_aggregate_group_2))),(21,.lit (.int .i64 ((x0.length:Int)))),(22,.lit (.int .i64 z1)),(30,.sl (((List.take (a3.length-1) (List.drop 1 a3))).map enc_aggregate_group_2)),(31,.lit (.int .i64 (((List.take (a3.length-1) (List.drop 1 a3)).length:Int)))),(32,.lit (.int .i64 z2))] (Lv env 32 Tryz.f32 3 res φ)
def L4 (x0:List (List aggregate_group)) (x2:Bool) (z0 a3:List aggregate_group) (a8:aggregate_group) (z1 z2:Int) (φ:List aggregate_group×Bool→Prop):Prop:=Pt env 32 W B [1,0,1,0,1,0,1,0,0,1,1,0,0,1,1,0,1,0,0,1,1,1] [(0,.sl (x0.map (eSl enc_aggregate_group_2))),(2,.lit (.bool x2)),(8,.own (z0.map enc_aggregate_group_2)),(10,.sl (a3.map enc_aggregate_group_2)),(11,.box [.sl (a8.ids.map (eI .i64)),.lit (.bool a8.ok),.lit (.int .i64 a8.value.Kind),.lit (.int .i64 a8.value.Num),.lit (.string a8.value.Str),.lit (.int .i64 a8.sum.high),.lit (.int .i64 a8.sum.low)]),(20,.sl (x0.map (eSl enc_aggregate_group_2))),(21,.lit (.int .i64 ((x0.length:Int)))),(22,.lit (.int .i64 z1)),(30,.sl (((List.take (a3.length-1) (List.drop 1 a3))).map enc_aggregate_group_2)),(31,.lit (.int .i64 (((List.take (a3.length-1) (List.drop 1 a3)).length:Int)))),(32,.lit (.int .i64 z2))] (Lv env 32 Tryz.f32 3 res φ)
theorem L2_step (x0:List (List aggregate_group)) (x2:Bool) (φ:List aggregate_group×Bool→Prop) (h :
 aggregate_extreme.L1 x0 x2 ([]) 0 φ):L2 x0 x2 φ:=
 mIn <|
 mLen 5 (eSl enc_aggregate_group_2) x0 <|
 mFin 2 h
theorem L1_step (x0:List (List aggregate_group)) (x2:Bool) (z0:List aggregate_group) (z1:Int) (φ:List aggregate_group×Bool→Prop) (h :
 (if z1<(x0.length:Int) then
 ∃ a3,lget x0 z1=some a3 ∧
 ∃ a5,lget a3 0=some a5 ∧
 (1≤a3.length∧a3.length≤a3.length) ∧
 aggregate_extreme.L3 x0 x2 z0 a3 a5 z1 0 φ
 else
 φ ((z0,true)))):L1 x0 x2 z0 z1 φ:=
 mIn <|
 mAsk 2 h dT dF (fun h=>
 mIx 4 (eSl enc_aggregate_group_2) h fun a3 h4 h=>
 mIx 5 enc_aggregate_group_2 h fun a5 h6 h=>
 h.elim fun h7 h=>
 mVl 6 (val_slice_sl (t:=79) (x:=(.tmp 29)) (lo:=(some (.const (.int .i64 1)))) (hi:=none) (lo':=some ((1:Int)).toNat) (hi':=none) (e:=enc_aggregate_group_2) (l:=a3) (et:=92) (k:=7) (by kernel_rfl) (by kernel_rfl) (by kernel_rfl) optNat_none (by kernel_rfl) (by kernel_rfl) (fun _=>rfl) (by kernel_rfl) h7.1 h7.2) <|
 mLen 0 enc_aggregate_group_2 ((List.take (a3.length-1) (List.drop 1 a3))) <|
 mFin 2 h) fun h=>
 mRet 8 h
theorem L3_step (x0:List (List aggregate_group)) (x2:Bool) (z0 a3:List aggregate_group) (a5:aggregate_group) (z1 z2:Int) (φ:List aggregate_group×Bool→Prop) (h :
 (if z2<((List.take (a3.length-1) (List.drop 1 a3)).length:Int) then
 ∃ a8,lget ((List.take (a3.length-1) (List.drop 1 a3))) z2=some a8 ∧
 ∃ r10:Bool,aggregate_total_less.C a5.sum a8.sum r10 ∧
 (if r10=x2 then
 (if (and (a5.sum.high == a8.sum.high) (and (a5.sum.low == a8.sum.low) true))=true then
 aggregate_extreme.L4 x0 x2 z0 a3 a5 z1 z2 φ
 else
 aggregate_extreme.L4 x0 x2 z0 a3 a8 z1 z2 φ)
 else
 aggregate_extreme.L4 x0 x2 z0 a3 a5 z1 z2 φ)
 else
 (z0.length+1)*80≤140737488355328 ∧
 aggregate_extreme.L1 x0 x2 ((z0++[a5])) ((IntKind.wrap .i64 (z1+1))) φ)):L3 x0 x2 z0 a3 a5 z1 z2 φ:=
 mIn <|
 mAsk 2 h dT dF (fun h=>
 mIx 4 enc_aggregate_group_2 h fun a8 h9 h=>
 mCal 9 h (fun _ h=>h) fun r10 _ h=>
 mAsk 1 h bbeq_t bbeq_f (fun h=>
 mBiAN 5 h (fun h=>fls (not_t h)) not_f (hd:=(bin_ane (t:=90) (xs:=[.lit (.int .i64 a5.sum.high),.lit (.int .i64 a5.sum.low)]) (ys:=[.lit (.int .i64 a8.sum.high),.lit (.int .i64 a8.sum.low)]) (l:=[(a5.sum.high == a8.sum.high),(a5.sum.low == a8.sum.low)]))) (fun h=>
 mFin 7 h) fun h=>
 mFin 4 h) fun h=>
 mFin 10 h) fun h=>
 mApp 7 enc_aggregate_group_2 z0 ([a5]) h fun h=>
 mFin 6 h
theorem L4_step (x0:List (List aggregate_group)) (x2:Bool) (z0 a3:List aggregate_group) (a8:aggregate_group) (z1 z2:Int) (φ:List aggregate_group×Bool→Prop) (h :
 aggregate_extreme.L3 x0 x2 z0 a3 a8 z1 ((IntKind.wrap .i64 (z2+1))) φ):L4 x0 x2 z0 a3 a8 z1 z2 φ:=
 mIn <|
 mFin 4 h
theorem enter (x0:List (List aggregate_group)) (x1:Int) (x2:Bool) (φ:List aggregate_group×Bool→Prop) (h :
 (if x1=1 then
 aggregate_extreme.L2 x0 x2 φ
 else
 (if x1=2 then
 aggregate_extreme.L2 x0 x2 φ
 else
 (if (x1 == 4)=x2 then
 ∃ r1:List aggregate_group×Bool,aggregate_outer.C x0 x2 r1 ∧
 φ ((r1.1,r1.2))
 else
 ∃ r2:List aggregate_group×Bool,aggregate_inner.C x0 x2 r2 ∧
 φ ((r2.1,r2.2)))))):∃ r,φ r∧C x0 x1 x2 r:=
 mEnt (fd:=Tryz.f32) (body:=B) (V:=W) (res:=res) <|
 mAsk 6 h beq_t beq_f (fun h=>
 mFin 6 h) fun h=>
 mAsk 2 h beq_t beq_f (fun h=>
 mFin 3 h) fun h=>
 mAsk 8 h bbeq_t bbeq_f (fun h=>
 mCal 5 h (fun _ h=>h) (hf:=(fun _=>clF_both)) fun r1 _ h=>
 mRet 5 h) fun h=>
 mCal 6 h (fun _ h=>h) (hf:=(fun _=>clF_both)) fun r2 _ h=>
 mRet 5 h
end aggregate_extreme
end Go.Own
namespace Go.Own
open Go.Proofs D
set_option maxRecDepth 100000
set_option maxHeartbeats 4000000
namespace aggregate_Of
noncomputable def B:Code:=(Tryz.f15.body).getD .skip
def W:List Nat:=[0,1,2,3,4,5,10,11,12,13,14,15,16,17,18,19,20,21,23,24,25,33,55,64,74,83,84,85,86]
def res (r:api_Range×Int):D×List D:=(.tup [.agg [.lit (.int .i64 r.1.Least.Kind),.lit (.int .i64 r.1.Least.Num),.lit (.string r.1.Least.Str),.lit (.int .i64 r.1.Greatest.Kind),.lit (.int .i64 r.1.Greatest.Num),.lit (.string r.1.Greatest.Str),.lit (.bool r.1.Some),.lit (.bool r.1.Every)],.lit (.int .i64 r.2)],[])
def C (x0:api_Table) (x1:Int) (x2:List api_Condition) (x3 x4:Int) (r:api_Range×Int):Prop:=Ret env 15 [.agg [.lit (.string x0.Name),.sl (x0.Attrs.map eS),.sl (x0.Rows.map enc_api_Row)],.lit (.int .u32 x1),.sl (x2.map enc_api_Condition),.lit (.int .i64 x3),.lit (.int .i64 x4)] (res r).1 (res r).2
def L2 (r2:List (List aggregate_group)) (r5 r6:api_Value×Int) (z0:Bool) (φ:api_Range×Int→Prop):Prop:=Pt env 15 W B [1,1,1,1,1,1,1,1,1,1,1,0,0] [(10,.box [.lit (.int .i64 0),.lit (.int .i64 0),.lit (.string ((⟨#[]⟩:ByteArray))),.lit (.int .i64 0),.lit (.int .i64 0),.lit (.string ((⟨#[]⟩:ByteArray))),.lit (.bool false),.lit (.bool false)]),(13,.sl (r2.map (eSl enc_aggregate_group_2))),(18,.box [.lit (.int .i64 r5.1.Kind),.lit (.int .i64 r5.1.Num),.lit (.string r5.1.Str)]),(20,.box [.lit (.int .i64 r6.1.Kind),.lit (.int .i64 r6.1.Num),.lit (.string r6.1.Str)]),(21,.lit (.bool z0))] (Lv env 15 Tryz.f15 5 res φ)
def L1 (r2:List (List aggregate_group)) (r5 r6:api_Value×Int) (z0:Bool) (z1:Int) (φ:api_Range×Int→Prop):Prop:=Pt env 15 W B [1,1,1,1,1,1,1,1,1,1,1,0,1,0] [(10,.box [.lit (.int .i64 0),.lit (.int .i64 0),.lit (.string ((⟨#[]⟩:ByteArray))),.lit (.int .i64 0),.lit (.int .i64 0),.lit (.string ((⟨#[]⟩:ByteArray))),.lit (.bool false),.lit (.bool false)]),(13,.sl (r2.map (eSl enc_aggregate_group_2))),(18,.box [.lit (.int .i64 r5.1.Kind),.lit (.int .i64 r5.1.Num),.lit (.string r5.1.Str)]),(20,.box [.lit (.int .i64 r6.1.Kind),.lit (.int .i64 r6.1.Num),.lit (.string r6.1.Str)]),(21,.lit (.bool z0)),(83,.sl (r2.map (eSl enc_aggregate_group_2))),(84,.lit (.int .i64 ((r2.length:Int)))),(85,.lit (.int .i64 z1))] (Lv env 15 Tryz.f15 5 res φ)
def L3 (r2:List (List aggregate_group)) (r5 r6:api_Value×Int) (z0:Bool) (z1:Int) (φ:api_Range×Int→Prop):Prop:=Pt env 15 W B [1,1,1,1,1,1,1,1,1,1,1,0,1,0,0,1,1,1] [(10,.box [.lit (.int .i64 0),.lit (.int .i64 0),.lit (.string ((⟨#[]⟩:ByteArray))),.lit (.int .i64 0),.lit (.int .i64 0),.lit (.string ((⟨#[]⟩:ByteArray))),.lit (.bool false),.lit (.bool false)]),(13,.sl (r2.map (eSl enc_aggregate_group_2))),(18,.box [.lit (.int .i64 r5.1.Kind),.lit (.int .i64 r5.1.Num),.lit (.string r5.1.Str)]),(20,.box [.lit (.int .i64 r6.1.Kind),.lit (.int .i64 r6.1.Num),.lit (.string r6.1.Str)]),(21,.lit (.bool z0)),(83,.sl (r2.map (eSl enc_aggregate_group_2))),(84,.lit (.int .i64 ((r2.length:Int)))),(85,.lit (.int .i64 z1))] (Lv env 15 Tryz.f15 5 res φ)
theorem L2_step (r2:List (List aggregate_group)) (r5 r6:api_Value×Int) (z0:Bool) (φ:api_Range×Int→Prop) (h :
 aggregate_Of.L1 r2 r5 r6 z0 0 φ):L2 r2 r5 r6 z0 φ:=
 mIn <|
 mLen 2 (eSl enc_aggregate_group_2) r2 <|
 mFin 2 h
theorem L1_step (r2:List (List aggregate_group)) (r5 r6:api_Value×Int) (z0:Bool) (z1:Int) (φ:api_Range×Int→Prop) (h :
 (if z1<(r2.length:Int) then
 ∃ a7,lget r2 z1=some a7 ∧
 ∃ r9:aggregate_group×Bool,aggregate_empty.C a7 r9 ∧
 (if z0=true then
 aggregate_Of.L3 r2 r5 r6 true z1 φ
 else
 aggregate_Of.L3 r2 r5 r6 ((not r9.2)) z1 φ)
 else
 φ (((⟨r5.1,r6.1,true,z0⟩:api_Range),0)))):L1 r2 r5 r6 z0 z1 φ:=
 mIn <|
 mAsk 2 h dT dF (fun h=>
 mIx 4 (eSl enc_aggregate_group_2) h fun a7 h8 h=>
 mCal 5 h (fun _ h=>h) (hf:=(fun _=>clF_both)) fun r9 _ h=>
 mAsk 8 h id fls (fun h=>
 mFin 6 h) fun h=>
 mFin 6 h) fun h=>
 mRet 11 h
theorem L3_step (r2:List (List aggregate_group)) (r5 r6:api_Value×Int) (z0:Bool) (z1:Int) (φ:api_Range×Int→Prop) (h :
 aggregate_Of.L1 r2 r5 r6 z0 ((IntKind.wrap .i64 (z1+1))) φ):L3 r2 r5 r6 z0 z1 φ:=
 mIn <|
 mFin 4 h
theorem enter (x0:api_Table) (x1:Int) (x2:List api_Condition) (x3 x4:Int) (φ:api_Range×Int→Prop) (h :
 ∃ r1:Int,aggregate_check.C x0 x1 x2 x3 x4 r1 ∧
 (if r1=0 then
 ∃ r2:List (List aggregate_group),aggregate_groups.C x0 x1 x2 x3 x4 r2 ∧
 ∃ r3:List aggregate_group×Bool,aggregate_extreme.C r2 x3 false r3 ∧
 ∃ r4:List aggregate_group×Bool,aggregate_extreme.C r2 x3 true r4 ∧
 (if r3.2=true then
 ∃ r5:api_Value×Int,aggregate_choice_result.C r3.1 x3 r5 ∧
 (if r5.2=0 then
 ∃ r6:api_Value×Int,aggregate_choice_result.C r4.1 x3 r6 ∧
 (if r6.2=0 then
 (if x3=1 then
 aggregate_Of.L2 r2 r5 r6 true φ
 else
 aggregate_Of.L2 r2 r5 r6 ((x3 == 2)) φ)
 else
 φ (((⟨(⟨0,0,(⟨#[]⟩:ByteArray)⟩:api_Value),(⟨0,0,(⟨#[]⟩:ByteArray)⟩:api_Value),false,false⟩:api_Range),r6.2)))
 else
 φ (((⟨(⟨0,0,(⟨#[]⟩:ByteArray)⟩:api_Value),(⟨0,0,(⟨#[]⟩:ByteArray)⟩:api_Value),false,false⟩:api_Range),r5.2)))
 else
 φ (((⟨(⟨0,0,(⟨#[]⟩:ByteArray)⟩:api_Value),(⟨0,0,(⟨#[]⟩:ByteArray)⟩:api_Value),false,false⟩:api_Range),0)))
 else
 φ (((⟨(⟨0,0,(⟨#[]⟩:ByteArray)⟩:api_Value),(⟨0,0,(⟨#[]⟩:ByteArray)⟩:api_Value),false,false⟩:api_Range),r1)))):∃ r,φ r∧C x0 x1 x2 x3 x4 r:=
 mEnt (fd:=Tryz.f15) (body:=B) (V:=W) (res:=res) <|
 mCal 11 h (fun _ h=>h) fun r1 _ h=>
 mAskN 4 h bne_t bne_f (fun h=>
 mRet 8 h) fun h=>
 mCalE 9 h (fun _ h=>h) (fun (r2:List (List aggregate_group))=>cold_ow (l:=r2) (e:=(eOw enc_aggregate_group)) (e':=(eSl enc_aggregate_group_2)) rfl (Fzn.ow (fun x=>(fcs_cons (freeze_ow (e:=(eI .i64)) (e':=(eI .i64)) (fun _=>rfl) x.ids) (fcs_cons rfl (fcs_cons rfl (fcs_cons rfl (fcs_cons rfl (fcs_cons rfl (fcs_cons rfl fcs_nil)))))))))) (hf:=(fun _=>clF_flat (flat_ow (e:=(eOw enc_aggregate_group)) (Flt.ow (fun _=>(flts_cons (flat_ow (e:=(eI .i64)) (fun _=>rfl)) (flts_cons rfl (flts_cons rfl (flts_cons rfl (flts_cons rfl (flts_cons rfl (flts_cons rfl flts_nil)))))))))) rfl)) fun r2 _ h=>
 mCal 5 h (fun _ h=>h) (hf:=(fun _=>clF_both)) fun r3 _ h=>
 mCal 9 h (fun _ h=>h) (hf:=(fun _=>clF_both)) fun r4 _ h=>
 mAsk 7 h id fls (fun h=>
 mCal 7 h (fun _ h=>h) (hr:=by exact (pr_snap (snap_ow (s:=14) (ps:=[]) (l:=r3.1) (e:=enc_aggregate_group_2) (e':=enc_aggregate_group_2) (fun _=>rfl) (by kernel_rfl)) (pr_k pr_nil))) (hf:=(fun _=>clF_flat (flat_tup (flts_cons (flat_agg (flts_cons rfl (flts_cons rfl (flts_cons rfl flts_nil)))) (flts_cons rfl flts_nil))) rfl)) fun r5 _ h=>
 mAskN 9 h bne_t bne_f (fun h=>
 mRet 8 h) fun h=>
 mCal 6 h (fun _ h=>h) (hr:=by exact (pr_snap (snap_ow (s:=16) (ps:=[]) (l:=r4.1) (e:=enc_aggregate_group_2) (e':=enc_aggregate_group_2) (fun _=>rfl) (by kernel_rfl)) (pr_k pr_nil))) (hf:=(fun _=>clF_flat (flat_tup (flts_cons (flat_agg (flts_cons rfl (flts_cons rfl (flts_cons rfl flts_nil)))) (flts_cons rfl flts_nil))) rfl)) fun r6 _ h=>
 mAskN 9 h bne_t bne_f (fun h=>
 mRet 8 h) fun h=>
 mAsk 5 h beq_t beq_f (fun h=>
 mFin 6 h) fun h=>
 mFin 6 h) fun h=>
 mRet 8 h
end aggregate_Of
end Go.Own
namespace Go.Own
open Go.Proofs D
set_option maxRecDepth 100000
set_option maxHeartbeats 4000000
namespace drossref51_Less
noncomputable def B:Code:=(Tryz.f23.body).getD .skip
def W:List Nat:=[0,1,2,3,4,6,8]
def res (r:Bool):D×List D:=(.lit (.bool r),[])
def C (x0 x1:drossref51_Result) (x2:Int) (r:Bool):Prop:=Ret env 23 [.agg [.lit (.int .i64 x0.Value.Kind),.lit (.int .i64 x0.Value.Num),.lit (.string x0.Value.Str),.lit (.int .i64 x0.Sum.High),.lit (.int .i64 x0.Sum.Low),.lit (.bool x0.OK)],.agg [.lit (.int .i64 x1.Value.Kind),.lit (.int .i64 x1.Value.Num),.lit (.string x1.Value.Str),.lit (.int .i64 x1.Sum.High),.lit (.int .i64 x1.Sum.Low),.lit (.bool x1.OK)],.lit (.int .i64 x2)] (res r).1 (res r).2
theorem enter (x0 x1:drossref51_Result) (x2:Int) (φ:Bool→Prop) (h :
 (if x2=2 then
 (if x0.Sum.High<x1.Sum.High then
 φ true
 else
 (if x0.Sum.High=x1.Sum.High then
 φ ((decide (x0.Sum.Low<x1.Sum.Low)))
 else
 φ false))
 else
 ∃ r1:Int,drossref01_Compare.C x0.Value x1.Value r1 ∧
 φ ((decide (r1<0))))):∃ r,φ r∧C x0 x1 x2 r:=
 mEnt (fd:=Tryz.f23) (body:=B) (V:=W) (res:=res) <|
 mAsk 7 h beq_t beq_f (fun h=>
 mAsk 9 h dT dF (fun h=>
 mRet 20 h) fun h=>
 mAsk 7 h beq_t beq_f (fun h=>
 mRet 12 h) fun h=>
 mRet 12 h) fun h=>
 mCal 8 h (fun _ h=>h) fun r1 _ h=>
 mRet 3 h
end drossref51_Less
end Go.Own
namespace Go.Own
open Go.Proofs D
set_option maxRecDepth 100000
set_option maxHeartbeats 4000000
namespace drossref51_Range
noncomputable def B:Code:=(Tryz.f9.body).getD .skip
def W:List Nat:=[0,1,2,3,4,5,10,11,12,13,14,15,16,24,34,48,59,71,86]
def res (r:drossref51_Bounds×Int):D×List D:=(.tup [.agg [.lit (.int .i64 r.1.Least.Value.Kind),.lit (.int .i64 r.1.Least.Value.Num),.lit (.string r.1.Least.Value.Str),.lit (.int .i64 r.1.Least.Sum.High),.lit (.int .i64 r.1.Least.Sum.Low),.lit (.bool r.1.Least.OK),.lit (.int .i64 r.1.Greatest.Value.Kind),.lit (.int .i64 r.1.Greatest.Value.Num),.lit (.string r.1.Greatest.Value.Str),.lit (.int .i64 r.1.Greatest.Sum.High),.lit (.int .i64 r.1.Greatest.Sum.Low),.lit (.bool r.1.Greatest.OK),.lit (.bool r.1.Some),.lit (.bool r.1.Every)],.lit (.int .i64 r.2)],[])
def C (x0:api_Table) (x1:Int) (x2:List api_Condition) (x3 x4:Int) (r:drossref51_Bounds×Int):Prop:=Ret env 9 [.agg [.lit (.string x0.Name),.sl (x0.Attrs.map eS),.sl (x0.Rows.map enc_api_Row)],.lit (.int .u32 x1),.sl (x2.map enc_api_Condition),.lit (.int .i64 x3),.lit (.int .i64 x4)] (res r).1 (res r).2
def L1 (x2:List api_Condition) (x3 x4:Int) (z0 z1:Int) (z2:ByteArray) (z3 z4:Int) (z5:Bool) (z6 z7:Int) (z8:ByteArray) (z9 z10:Int) (z11 z12 z13:Bool) (r2:List (List api_Row)) (z14:Int) (φ:drossref51_Bounds×Int→Prop):Prop:=Pt env 9 W B [1,1,1,1,0,1,0] [(2,.sl (x2.map enc_api_Condition)),(3,.lit (.int .i64 x3)),(4,.lit (.int .i64 x4)),(10,.box [.lit (.int .i64 0),.lit (.int .i64 0),.lit (.string ((⟨#[]⟩:ByteArray))),.lit (.int .i64 0),.lit (.int .i64 0),.lit (.bool false),.lit (.int .i64 0),.lit (.int .i64 0),.lit (.string ((⟨#[]⟩:ByteArray))),.lit (.int .i64 0),.lit (.int .i64 0),.lit (.bool false),.lit (.bool false),.lit (.bool false)]),(13,.box [.lit (.int .i64 z0),.lit (.int .i64 z1),.lit (.string z2),.lit (.int .i64 z3),.lit (.int .i64 z4),.lit (.bool z5),.lit (.int .i64 z6),.lit (.int .i64 z7),.lit (.string z8),.lit (.int .i64 z9),.lit (.int .i64 z10),.lit (.bool z11),.lit (.bool z12),.lit (.bool z13)]),(14,.sl (r2.map (eSl enc_api_Row))),(15,.lit (.int .i64 z14))] (Lv env 9 Tryz.f9 5 res φ)
def L5 (x2:List api_Condition) (x3 x4:Int) (z0 z1:Int) (z2:ByteArray) (z3 z4:Int) (z5:Bool) (z6 z7:Int) (z8:ByteArray) (z9 z10:Int) (z11 z12 z13:Bool) (r2:List (List api_Row)) (z14:Int) (r6:drossref51_Result) (φ:drossref51_Bounds×Int→Prop):Prop:=Pt env 9 W B [1,1,1,1,0,1,0,0,1,0,0,1,1,0,1,0] [(2,.sl (x2.map enc_api_Condition)),(3,.lit (.int .i64 x3)),(4,.lit (.int .i64 x4)),(10,.box [.lit (.int .i64 0),.lit (.int .i64 0),.lit (.string ((⟨#[]⟩:ByteArray))),.lit (.int .i64 0),.lit (.int .i64 0),.lit (.bool false),.lit (.int .i64 0),.lit (.int .i64 0),.lit (.string ((⟨#[]⟩:ByteArray))),.lit (.int .i64 0),.lit (.int .i64 0),.lit (.bool false),.lit (.bool false),.lit (.bool false)]),(13,.box [.lit (.int .i64 z0),.lit (.int .i64 z1),.lit (.string z2),.lit (.int .i64 z3),.lit (.int .i64 z4),.lit (.bool z5),.lit (.int .i64 z6),.lit (.int .i64 z7),.lit (.string z8),.lit (.int .i64 z9),.lit (.int .i64 z10),.lit (.bool z11),.lit (.bool z12),.lit (.bool z13)]),(14,.sl (r2.map (eSl enc_api_Row))),(15,.lit (.int .i64 z14)),(16,.box [.lit (.int .i64 r6.Value.Kind),.lit (.int .i64 r6.Value.Num),.lit (.string r6.Value.Str),.lit (.int .i64 r6.Sum.High),.lit (.int .i64 r6.Sum.Low),.lit (.bool r6.OK)])] (Lv env 9 Tryz.f9 5 res φ)
def L4 (x2:List api_Condition) (x3 x4:Int) (z0 z1:Int) (z2:ByteArray) (z3 z4:Int) (z5:Bool) (z6 z7:Int) (z8:ByteArray) (z9 z10:Int) (z11 z12 z13:Bool) (r2:List (List api_Row)) (z14:Int) (r6:drossref51_Result) (φ:drossref51_Bounds×Int→Prop):Prop:=Pt env 9 W B [1,1,1,1,0,1,0,0,1,0,0,1,1,1,0,0] [(2,.sl (x2.map enc_api_Condition)),(3,.lit (.int .i64 x3)),(4,.lit (.int .i64 x4)),(10,.box [.lit (.int .i64 0),.lit (.int .i64 0),.lit (.string ((⟨#[]⟩:ByteArray))),.lit (.int .i64 0),.lit (.int .i64 0),.lit (.bool false),.lit (.int .i64 0),.lit (.int .i64 0),.lit (.string ((⟨#[]⟩:ByteArray))),.lit (.int .i64 0),.lit (.int .i64 0),.lit (.bool false),.lit (.bool false),.lit (.bool false)]),(13,.box [.lit (.int .i64 z0),.lit (.int .i64 z1),.lit (.string z2),.lit (.int .i64 z3),.lit (.int .i64 z4),.lit (.bool z5),.lit (.int .i64 z6),.lit (.int .i64 z7),.lit (.string z8),.lit (.int .i64 z9),.lit (.int .i64 z10),.lit (.bool z11),.lit (.bool z12),.lit (.bool z13)]),(14,.sl (r2.map (eSl enc_api_Row))),(15,.lit (.int .i64 z14)),(16,.box [.lit (.int .i64 r6.Value.Kind),.lit (.int .i64 r6.Value.Num),.lit (.string r6.Value.Str),.lit (.int .i64 r6.Sum.High),.lit (.int .i64 r6.Sum.Low),.lit (.bool r6.OK)])] (Lv env 9 Tryz.f9 5 res φ)
def L6 (x2:List api_Condition) (x3 x4:Int) (z0 z1:Int) (z2:ByteArray) (z3 z4:Int) (z5:Bool) (z6 z7:Int) (z8:ByteArray) (z9 z10:Int) (z11 z12 z13:Bool) (r2:List (List api_Row)) (z14:Int) (φ:drossref51_Bounds×Int→Prop):Prop:=Pt env 9 W B [1,1,1,1,0,1,0,0,1,1] [(2,.sl (x2.map enc_api_Condition)),(3,.lit (.int .i64 x3)),(4,.lit (.int .i64 x4)),(10,.box [.lit (.int .i64 0),.lit (.int .i64 0),.lit (.string ((⟨#[]⟩:ByteArray))),.lit (.int .i64 0),.lit (.int .i64 0),.lit (.bool false),.lit (.int .i64 0),.lit (.int .i64 0),.lit (.string ((⟨#[]⟩:ByteArray))),.lit (.int .i64 0),.lit (.int .i64 0),.lit (.bool false),.lit (.bool false),.lit (.bool false)]),(13,.box [.lit (.int .i64 z0),.lit (.int .i64 z1),.lit (.string z2),.lit (.int .i64 z3),.lit (.int .i64 z4),.lit (.bool z5),.lit (.int .i64 z6),.lit (.int .i64 z7),.lit (.string z8),.lit (.int .i64 z9),.lit (.int .i64 z10),.lit (.bool z11),.lit (.bool z12),.lit (.bool z13)]),(14,.sl (r2.map (eSl enc_api_Row))),(15,.lit (.int .i64 z14))] (Lv env 9 Tryz.f9 5 res φ)
def L3 (x2:List api_Condition) (x3 x4:Int) (z0 z1:Int) (z2:ByteArray) (z3 z4:Int) (z5:Bool) (z6 z7:Int) (z8:ByteArray) (z9 z10:Int) (z11 z12 z13:Bool) (r2:List (List api_Row)) (z14:Int) (r6:drossref51_Result) (φ:drossref51_Bounds×Int→Prop):Prop:=Pt env 9 W B [1,1,1,1,0,1,0,0,1,0,0,1,1,1,0,1,0] [(2,.sl (x2.map enc_api_Condition)),(3,.lit (.int .i64 x3)),(4,.lit (.int .i64 x4)),(10,.box [.lit (.int .i64 0),.lit (.int .i64 0),.lit (.string ((⟨#[]⟩:ByteArray))),.lit (.int .i64 0),.lit (.int .i64 0),.lit (.bool false),.lit (.int .i64 0),.lit (.int .i64 0),.lit (.string ((⟨#[]⟩:ByteArray))),.lit (.int .i64 0),.lit (.int .i64 0),.lit (.bool false),.lit (.bool false),.lit (.bool false)]),(13,.box [.lit (.int .i64 z0),.lit (.int .i64 z1),.lit (.string z2),.lit (.int .i64 z3),.lit (.int .i64 z4),.lit (.bool z5),.lit (.int .i64 z6),.lit (.int .i64 z7),.lit (.string z8),.lit (.int .i64 z9),.lit (.int .i64 z10),.lit (.bool z11),.lit (.bool z12),.lit (.bool z13)]),(14,.sl (r2.map (eSl enc_api_Row))),(15,.lit (.int .i64 z14)),(16,.box [.lit (.int .i64 r6.Value.Kind),.lit (.int .i64 r6.Value.Num),.lit (.string r6.Value.Str),.lit (.int .i64 r6.Sum.High),.lit (.int .i64 r6.Sum.Low),.lit (.bool r6.OK)])] (Lv env 9 Tryz.f9 5 res φ)
def L2 (x2:List api_Condition) (x3 x4:Int) (z0 z1:Int) (z2:ByteArray) (z3 z4:Int) (z5:Bool) (z6 z7:Int) (z8:ByteArray) (z9 z10:Int) (z11 z12 z13:Bool) (r2:List (List api_Row)) (z14:Int) (φ:drossref51_Bounds×Int→Prop):Prop:=Pt env 9 W B [1,1,1,1,0,1,0,0,1,0,0,1,1,1,1] [(2,.sl (x2.map enc_api_Condition)),(3,.lit (.int .i64 x3)),(4,.lit (.int .i64 x4)),(10,.box [.lit (.int .i64 0),.lit (.int .i64 0),.lit (.string ((⟨#[]⟩:ByteArray))),.lit (.int .i64 0),.lit (.int .i64 0),.lit (.bool false),.lit (.int .i64 0),.lit (.int .i64 0),.lit (.string ((⟨#[]⟩:ByteArray))),.lit (.int .i64 0),.lit (.int .i64 0),.lit (.bool false),.lit (.bool false),.lit (.bool false)]),(13,.box [.lit (.int .i64 z0),.lit (.int .i64 z1),.lit (.string z2),.lit (.int .i64 z3),.lit (.int .i64 z4),.lit (.bool z5),.lit (.int .i64 z6),.lit (.int .i64 z7),.lit (.string z8),.lit (.int .i64 z9),.lit (.int .i64 z10),.lit (.bool z11),.lit (.bool z12),.lit (.bool z13)]),(14,.sl (r2.map (eSl enc_api_Row))),(15,.lit (.int .i64 z14))] (Lv env 9 Tryz.f9 5 res φ)
theorem L1_step (x2:List api_Condition) (x3 x4:Int) (z0 z1:Int) (z2:ByteArray) (z3 z4:Int) (z5:Bool) (z6 z7:Int) (z8:ByteArray) (z9 z10:Int) (z11 z12 z13:Bool) (r2:List (List api_Row)) (z14:Int) (φ:drossref51_Bounds×Int→Prop) (h :
 (if z14<(r2.length:Int) then
 ∃ a3,lget r2 z14=some a3 ∧
 ∃ r5:List api_Row,drossref51_chosen.C a3 x2 r5 ∧
 ∃ r6:drossref51_Result,drossref51_Of.C r5 x3 x4 r6 ∧
 (if r6.OK=true then
 (if z12=true then
 ∃ r7:Bool,drossref51_Less.C r6 ((⟨(⟨z0,z1,z2⟩:api_Value),(⟨z3,z4⟩:drossref51_Total),z5⟩:drossref51_Result)) x3 r7 ∧
 (if r7=true then
 drossref51_Range.L5 x2 x3 x4 z0 z1 z2 z3 z4 z5 z6 z7 z8 z9 z10 z11 z12 z13 r2 z14 r6 φ
 else
 drossref51_Range.L4 x2 x3 x4 z0 z1 z2 z3 z4 z5 z6 z7 z8 z9 z10 z11 z12 z13 r2 z14 r6 φ)
 else
 drossref51_Range.L5 x2 x3 x4 z0 z1 z2 z3 z4 z5 z6 z7 z8 z9 z10 z11 z12 z13 r2 z14 r6 φ)
 else
 drossref51_Range.L6 x2 x3 x4 z0 z1 z2 z3 z4 z5 z6 z7 z8 z9 z10 z11 z12 false r2 z14 φ)
 else
 ∃ r8:Bool,drossref51_fits.C ((⟨z3,z4⟩:drossref51_Total)) r8 ∧
 (if r8=true then
 ∃ r9:Bool,drossref51_fits.C ((⟨z9,z10⟩:drossref51_Total)) r9 ∧
 (if r9=true then
 φ (((⟨(⟨(⟨z0,z1,z2⟩:api_Value),(⟨z3,z4⟩:drossref51_Total),z5⟩:drossref51_Result),(⟨(⟨z6,z7,z8⟩:api_Value),(⟨z9,z10⟩:drossref51_Total),z11⟩:drossref51_Result),z12,z13⟩:drossref51_Bounds),0))
 else
 φ (((⟨(⟨(⟨0,0,(⟨#[]⟩:ByteArray)⟩:api_Value),(⟨0,0⟩:drossref51_Total),false⟩:drossref51_Result),(⟨(⟨0,0,(⟨#[]⟩:ByteArray)⟩:api_Value),(⟨0,0⟩:drossref51_Total),false⟩:drossref51_Result),false,false⟩:drossref51_Bounds),7)))
 else
 φ (((⟨(⟨(⟨0,0,(⟨#[]⟩:ByteArray)⟩:api_Value),(⟨0,0⟩:drossref51_Total),false⟩:drossref51_Result),(⟨(⟨0,0,(⟨#[]⟩:ByteArray)⟩:api_Value),(⟨0,0⟩:drossref51_Total),false⟩:drossref51_Result),false,false⟩:drossref51_Bounds),7))))):L1 x2 x3 x4 z0 z1 z2 z3 z4 z5 z6 z7 z8 z9 z10 z11 z12 z13 r2 z14 φ:=
 mIn <|
 mLen 4 (eSl enc_api_Row) r2 <|
 mAsk 0 h dT dF (fun h=>
 mIx 6 (eSl enc_api_Row) h fun a3 h4 h=>
 mCal 2 h (fun _ h=>h) (hf:=(fun _=>clF_both)) fun r5 _ h=>
 mCal 2 h (fun _ h=>h) (hr:=by exact (pr_snap (snap_ow (s:=42) (ps:=[]) (l:=r5) (e:=enc_api_Row) (e':=enc_api_Row) (fun _=>rfl) (by kernel_rfl)) (pr_k (pr_k pr_nil)))) (hf:=(fun _=>clF_flat (flat_agg (flts_cons rfl (flts_cons rfl (flts_cons rfl (flts_cons rfl (flts_cons rfl (flts_cons rfl flts_nil))))))) rfl)) fun r6 _ h=>
 mAsk 5 h id fls (fun h=>
 mAsk 6 h id fls (fun h=>
 mCalB 6 h (fun _ h=>h) (fun _ h=>
 mFin 3 h) fun _ h=>
 mFin 4 h) fun h=>
 mFin 10 h) fun h=>
 mFin 8 h) fun h=>
 mCalB 7 h (fun _ h=>h) (fun _ h=>
 mCalB 5 h (fun _ h=>h) (fun _ h=>
 mRet 10 h) fun _ h=>
 mRet 9 h) fun _ h=>
 mRet 15 h
theorem L5_step (x2:List api_Condition) (x3 x4:Int) (z0 z1:Int) (z2:ByteArray) (z3 z4:Int) (z5:Bool) (z6 z7:Int) (z8:ByteArray) (z9 z10:Int) (z11 z12 z13:Bool) (r2:List (List api_Row)) (z14:Int) (r6:drossref51_Result) (φ:drossref51_Bounds×Int→Prop) (h :
 drossref51_Range.L4 x2 x3 x4 r6.Value.Kind r6.Value.Num r6.Value.Str r6.Sum.High r6.Sum.Low r6.OK z6 z7 z8 z9 z10 z11 z12 z13 r2 z14 r6 φ):L5 x2 x3 x4 z0 z1 z2 z3 z4 z5 z6 z7 z8 z9 z10 z11 z12 z13 r2 z14 r6 φ:=
 mIn <|
 mFin 5 h
theorem L4_step (x2:List api_Condition) (x3 x4:Int) (z0 z1:Int) (z2:ByteArray) (z3 z4:Int) (z5:Bool) (z6 z7:Int) (z8:ByteArray) (z9 z10:Int) (z11 z12 z13:Bool) (r2:List (List api_Row)) (z14:Int) (r6:drossref51_Result) (φ:drossref51_Bounds×Int→Prop) (h :
 (if z12=true then
 ∃ r10:Bool,drossref51_Less.C ((⟨(⟨z6,z7,z8⟩:api_Value),(⟨z9,z10⟩:drossref51_Total),z11⟩:drossref51_Result)) r6 x3 r10 ∧
 (if r10=true then
 drossref51_Range.L3 x2 x3 x4 z0 z1 z2 z3 z4 z5 z6 z7 z8 z9 z10 z11 z12 z13 r2 z14 r6 φ
 else
 drossref51_Range.L2 x2 x3 x4 z0 z1 z2 z3 z4 z5 z6 z7 z8 z9 z10 z11 z12 z13 r2 z14 φ)
 else
 drossref51_Range.L3 x2 x3 x4 z0 z1 z2 z3 z4 z5 z6 z7 z8 z9 z10 z11 z12 z13 r2 z14 r6 φ)):L4 x2 x3 x4 z0 z1 z2 z3 z4 z5 z6 z7 z8 z9 z10 z11 z12 z13 r2 z14 r6 φ:=
 mIn <|
 mAsk 2 h id fls (fun h=>
 mCalB 6 h (fun _ h=>h) (fun _ h=>
 mFin 3 h) fun _ h=>
 mFin 4 h) fun h=>
 mFin 10 h
theorem L6_step (x2:List api_Condition) (x3 x4:Int) (z0 z1:Int) (z2:ByteArray) (z3 z4:Int) (z5:Bool) (z6 z7:Int) (z8:ByteArray) (z9 z10:Int) (z11 z12 z13:Bool) (r2:List (List api_Row)) (z14:Int) (φ:drossref51_Bounds×Int→Prop) (h :
 drossref51_Range.L1 x2 x3 x4 z0 z1 z2 z3 z4 z5 z6 z7 z8 z9 z10 z11 z12 z13 r2 ((IntKind.wrap .i64 (z14+1))) φ):L6 x2 x3 x4 z0 z1 z2 z3 z4 z5 z6 z7 z8 z9 z10 z11 z12 z13 r2 z14 φ:=
 mIn <|
 mFin 5 h
theorem L3_step (x2:List api_Condition) (x3 x4:Int) (z0 z1:Int) (z2:ByteArray) (z3 z4:Int) (z5:Bool) (z6 z7:Int) (z8:ByteArray) (z9 z10:Int) (z11 z12 z13:Bool) (r2:List (List api_Row)) (z14:Int) (r6:drossref51_Result) (φ:drossref51_Bounds×Int→Prop) (h :
 drossref51_Range.L2 x2 x3 x4 z0 z1 z2 z3 z4 z5 r6.Value.Kind r6.Value.Num r6.Value.Str r6.Sum.High r6.Sum.Low r6.OK z12 z13 r2 z14 φ):L3 x2 x3 x4 z0 z1 z2 z3 z4 z5 z6 z7 z8 z9 z10 z11 z12 z13 r2 z14 r6 φ:=
 mIn <|
 mFin 5 h
theorem L2_step (x2:List api_Condition) (x3 x4:Int) (z0 z1:Int) (z2:ByteArray) (z3 z4:Int) (z5:Bool) (z6 z7:Int) (z8:ByteArray) (z9 z10:Int) (z11 z12 z13:Bool) (r2:List (List api_Row)) (z14:Int) (φ:drossref51_Bounds×Int→Prop) (h :
 drossref51_Range.L6 x2 x3 x4 z0 z1 z2 z3 z4 z5 z6 z7 z8 z9 z10 z11 true z13 r2 z14 φ):L2 x2 x3 x4 z0 z1 z2 z3 z4 z5 z6 z7 z8 z9 z10 z11 z12 z13 r2 z14 φ:=
 mIn <|
 mFin 4 h
theorem enter (x0:api_Table) (x1:Int) (x2:List api_Condition) (x3 x4:Int) (φ:drossref51_Bounds×Int→Prop) (h :
 ∃ r1:Int,drossref51_Error.C x0 x1 x2 x3 x4 r1 ∧
 (if r1=0 then
 ∃ r2:List (List api_Row),drossref51_All.C x0 x1 r2 ∧
 drossref51_Range.L1 x2 x3 x4 0 0 ((⟨#[]⟩:ByteArray)) 0 0 false 0 0 ((⟨#[]⟩:ByteArray)) 0 0 false false true r2 0 φ
 else
 φ (((⟨(⟨(⟨0,0,(⟨#[]⟩:ByteArray)⟩:api_Value),(⟨0,0⟩:drossref51_Total),false⟩:drossref51_Result),(⟨(⟨0,0,(⟨#[]⟩:ByteArray)⟩:api_Value),(⟨0,0⟩:drossref51_Total),false⟩:drossref51_Result),false,false⟩:drossref51_Bounds),r1)))):∃ r,φ r∧C x0 x1 x2 x3 x4 r:=
 mEnt (fd:=Tryz.f9) (body:=B) (V:=W) (res:=res) <|
 mCal 11 h (fun _ h=>h) fun r1 _ h=>
 mAskN 4 h bne_t bne_f (fun h=>
 mRet 8 h) fun h=>
 mCal 11 h (fun _ h=>h) (hf:=(fun _=>clF_both)) fun r2 _ h=>
 mFin 5 h
end drossref51_Range
end Go.Own
namespace Go.Own
open Go.Proofs D
set_option maxRecDepth 100000
set_option maxHeartbeats 4000000
namespace slices_Index_sint64_int64
noncomputable def B:Code:=(Tryz.f81.body).getD .skip
def W:List Nat:=[0,1,4,5,7,8,9,16]
def res (r:Int):D×List D:=(.lit (.int .i64 r),[])
def C (x0:List Int) (x1 r:Int):Prop:=Ret env 81 [.sl (x0.map (eI .i64)),.lit (.int .i64 x1)] (res r).1 (res r).2
def L1 (x0:List Int) (x1 z0:Int) (φ:Int→Prop):Prop:=Pt env 81 W B [1,0,1,0] [(0,.sl (x0.map (eI .i64))),(1,.lit (.int .i64 x1)),(7,.lit (.int .i64 ((x0.length:Int)))),(8,.lit (.int .i64 z0))] (Lv env 81 Tryz.f81 2 res φ)
theorem L1_step (x0:List Int) (x1 z0:Int) (φ:Int→Prop) (h :
 (if z0<(x0.length:Int) then
 ∃ a1,lget x0 z0=some a1 ∧
 (if x1=a1 then
 φ z0
 else
 slices_Index_sint64_int64.L1 x0 x1 ((IntKind.wrap .i64 (z0+1))) φ)
 else
 φ ((-1)))):L1 x0 x1 z0 φ:=
 mIn <|
 mAsk 2 h dT dF (fun h=>
 mIx 11 (eI .i64) h fun a1 h2 h=>
 mAsk 1 h beq_t beq_f (fun h=>
 mRet 6 h) fun h=>
 mFin 7 h) fun h=>
 mRet 6 h
theorem enter (x0:List Int) (x1:Int) (φ:Int→Prop) (h :
 slices_Index_sint64_int64.L1 x0 x1 0 φ):∃ r,φ r∧C x0 x1 r:=
 mEnt (fd:=Tryz.f81) (body:=B) (V:=W) (res:=res) <|
 mLen 5 (eI .i64) x0 <|
 mFin 2 h
end slices_Index_sint64_int64
end Go.Own
namespace Go.Own
open Go.Proofs D
set_option maxRecDepth 100000
set_option maxHeartbeats 4000000
namespace slices_Contains_sint64_int64
noncomputable def B:Code:=(Tryz.f60.body).getD .skip
def W:List Nat:=[0,1,4]
def res (r:Bool):D×List D:=(.lit (.bool r),[])
def C (x0:List Int) (x1:Int) (r:Bool):Prop:=Ret env 60 [.sl (x0.map (eI .i64)),.lit (.int .i64 x1)] (res r).1 (res r).2
theorem enter (x0:List Int) (x1:Int) (φ:Bool→Prop) (h :
 ∃ r1:Int,slices_Index_sint64_int64.C x0 x1 r1 ∧
 φ ((decide (0≤r1)))):∃ r,φ r∧C x0 x1 r:=
 mEnt (fd:=Tryz.f60) (body:=B) (V:=W) (res:=res) <|
 mCal 6 h (fun _ h=>h) fun r1 _ h=>
 mRet 3 h
end slices_Contains_sint64_int64
end Go.Own
namespace Go.Own
open Go.Proofs D
set_option maxRecDepth 100000
set_option maxHeartbeats 4000000
namespace table_copied
noncomputable def B:Code:=(Tryz.f83.body).getD .skip
def W:List Nat:=[0,1,2]
def res (r:api_Row):D×List D:=(.agg [.lit (.int .i64 r.ID),.own (r.Values.map enc_api_Value)],[])
def C (x0 r:api_Row):Prop:=Ret env 83 [.agg [.lit (.int .i64 x0.ID),.sl (x0.Values.map enc_api_Value)]] (res r).1 (res r).2
theorem enter (x0:api_Row) (φ:api_Row→Prop) (h :
 x0.Values.length*32≤140737488355328 ∧
 φ x0):∃ r,φ r∧C x0 r:=
 mEnt (fd:=Tryz.f83) (body:=B) (V:=W) (res:=res) <|
 h.elim fun h1 h=>
 mLoP 9 (show Ret env 99 [.sl (x0.Values.map enc_api_Value)] (.own (x0.Values.map enc_api_Value)) [] from ret_clone (k:=3) (b:=32) (e:=enc_api_Value) (l:=x0.Values) (by kernel_rfl) (fun _=>rfl) h1) (hf:=(loF_flat (flat_ow (e:=enc_api_Value) (fun _=>rfl)))) <|
 mRet 3 h
end table_copied
end Go.Own
namespace Go.Own
open Go.Proofs D
set_option maxRecDepth 100000
set_option maxHeartbeats 4000000
namespace table_with
noncomputable def B:Code:=(Tryz.f61.body).getD .skip
def W:List Nat:=[0,1,2,4,5,7,14,15,16,17]
def res (r:api_Table):D×List D:=(.agg [.lit (.string r.Name),.own (r.Attrs.map eS),.own (r.Rows.map enc_api_Row_2)],[])
def C (x0:api_Table) (x1:List api_Row) (r:api_Table):Prop:=Ret env 61 [.agg [.lit (.string x0.Name),.sl (x0.Attrs.map eS),.sl (x0.Rows.map enc_api_Row)],.sl (x1.map enc_api_Row)] (res r).1 (res r).2
def L1 (x1:List api_Row) (x0:api_Table) (z0:List api_Row) (z1:Int) (φ:api_Table→Prop):Prop:=Pt env 61 W B [1,1,0,1,0] [(1,.sl (x1.map enc_api_Row)),(4,.box [.lit (.string ((⟨#[]⟩:ByteArray))),.own [],.own []]),(5,.box [.lit (.string x0.Name),.own (x0.Attrs.map eS),.own (z0.map enc_api_Row_2)]),(14,.sl (x1.map enc_api_Row)),(15,.lit (.int .i64 ((x1.length:Int)))),(16,.lit (.int .i64 z1))] (Lv env 61 Tryz.f61 2 res φ)
theorem L1_step (x1:List api_Row) (x0:api_Table) (z0:List api_Row) (z1:Int) (φ:api_Table→Prop) (h :
 (if z1<(x1.length:Int) then
 ∃ a2,lget x1 z1=some a2 ∧
 ∃ r4:api_Row,table_copied.C a2 r4 ∧
 (z0.length+1)*32≤140737488355328 ∧
 table_with.L1 x1 x0 ((z0++[r4])) ((IntKind.wrap .i64 (z1+1))) φ
 else
 φ ((⟨x0.Name,x0.Attrs,z0⟩:api_Table)))):L1 x1 x0 z0 z1 φ:=
 mIn <|
 mAsk 2 h dT dF (fun h=>
 mIx 4 enc_api_Row h fun a2 h3 h=>
 mLo 8 h (fun _ h=>h) (hf:=(fun _=>loF_flat (flat_agg (flts_cons rfl (flts_cons (flat_ow (e:=enc_api_Value) (fun _=>rfl)) flts_nil))))) fun r4 _ h=>
 mApp 1 enc_api_Row_2 z0 ([r4]) h fun h=>
 mFin 7 h) fun h=>
 mRet 7 h
theorem enter (x0:api_Table) (x1:List api_Row) (φ:api_Table→Prop) (h :
 x0.Attrs.length*16≤140737488355328 ∧
 table_with.L1 x1 x0 ([]) 0 φ):∃ r,φ r∧C x0 x1 r:=
 mEnt (fd:=Tryz.f61) (body:=B) (V:=W) (res:=res) <|
 h.elim fun h1 h=>
 mLoP 9 (show Ret env 82 [.sl (x0.Attrs.map eS)] (.own (x0.Attrs.map eS)) [] from ret_clone (k:=1) (b:=16) (e:=eS) (l:=x0.Attrs) (by kernel_rfl) (fun _=>rfl) h1) (hf:=(loF_flat (flat_ow (e:=eS) (fun _=>rfl)))) <|
 mLen 6 enc_api_Row x1 <|
 mFin 2 h
end table_with
end Go.Own
namespace Go.Own
open Go.Proofs D
set_option maxRecDepth 100000
set_option maxHeartbeats 4000000
namespace table_Keep
noncomputable def B:Code:=(Tryz.f35.body).getD .skip
def W:List Nat:=[0,1,2,4,5,7,9,10,11,12,18]
def res (r:api_Table):D×List D:=(.agg [.lit (.string r.Name),.own (r.Attrs.map eS),.own (r.Rows.map enc_api_Row_2)],[])
def C (x0:api_Table) (x1:List Int) (r:api_Table):Prop:=Ret env 35 [.agg [.lit (.string x0.Name),.sl (x0.Attrs.map eS),.sl (x0.Rows.map enc_api_Row)],.sl (x1.map (eI .i64))] (res r).1 (res r).2
def L1 (x0:api_Table) (x1:List Int) (z0:List api_Row) (z1:Int) (φ:api_Table→Prop):Prop:=Pt env 35 W B [1,1,0,1,0] [(0,.agg [.lit (.string x0.Name),.sl (x0.Attrs.map eS),.sl (x0.Rows.map enc_api_Row)]),(1,.sl (x1.map (eI .i64))),(2,.box [.lit (.string x0.Name),.sl (x0.Attrs.map eS),.sl (x0.Rows.map enc_api_Row)]),(4,.box [.lit (.string ((⟨#[]⟩:ByteArray))),.own [],.own []]),(5,.own (z0.map enc_api_Row)),(9,.sl (x0.Rows.map enc_api_Row)),(10,.lit (.int .i64 ((x0.Rows.length:Int)))),(11,.lit (.int .i64 z1))] (Lv env 35 Tryz.f35 2 res φ)
def L2 (x0:api_Table) (x1:List Int) (z0:List api_Row) (z1:Int) (φ:api_Table→Prop):Prop:=Pt env 35 W B [1,1,0,1,0,0,1,1,1] [(0,.agg [.lit (.string x0.Name),.sl (x0.Attrs.map eS),.sl (x0.Rows.map enc_api_Row)]),(1,.sl (x1.map (eI .i64))),(2,.box [.lit (.string x0.Name),.sl (x0.Attrs.map eS),.sl (x0.Rows.map enc_api_Row)]),(4,.box [.lit (.string ((⟨#[]⟩:ByteArray))),.own [],.own []]),(5,.own (z0.map enc_api_Row)),(9,.sl (x0.Rows.map enc_api_Row)),(10,.lit (.int .i64 ((x0.Rows.length:Int)))),(11,.lit (.int .i64 z1))] (Lv env 35 Tryz.f35 2 res φ)
theorem L1_step (x0:api_Table) (x1:List Int) (z0:List api_Row) (z1:Int) (φ:api_Table→Prop) (h :
 (if z1<(x0.Rows.length:Int) then
 ∃ a1,lget x0.Rows z1=some a1 ∧
 ∃ r3:Bool,slices_Contains_sint64_int64.C x1 a1.ID r3 ∧
 (if r3=true then
 (z0.length+1)*32≤140737488355328 ∧
 table_Keep.L2 x0 x1 ((z0++[a1])) z1 φ
 else
 table_Keep.L2 x0 x1 z0 z1 φ)
 else
 ∃ r5:api_Table,table_with.C x0 z0 r5 ∧
 φ r5)):L1 x0 x1 z0 z1 φ:=
 mIn <|
 mAsk 2 h dT dF (fun h=>
 mIx 4 enc_api_Row h fun a1 h2 h=>
 mCalB 8 h (fun _ h=>h) (fun _ h=>
 mApp 6 enc_api_Row z0 ([a1]) h fun h=>
 mFin 2 h) fun _ h=>
 mFin 3 h) fun h=>
 mCal 6 h (fun _ h=>h) (hr:=by exact (pr_k (pr_snap (snap_ow (s:=5) (ps:=[]) (l:=z0) (e:=enc_api_Row) (e':=enc_api_Row) (fun _=>rfl) (by kernel_rfl)) pr_nil))) (hf:=(fun _=>clF_flat (flat_agg (flts_cons rfl (flts_cons (flat_ow (e:=eS) (fun _=>rfl)) (flts_cons (flat_ow (e:=enc_api_Row_2) (fun _=>(flts_cons rfl (flts_cons (flat_ow (e:=enc_api_Value) (fun _=>rfl)) flts_nil)))) flts_nil)))) rfl)) fun r5 _ h=>
 mRet 2 h
theorem L2_step (x0:api_Table) (x1:List Int) (z0:List api_Row) (z1:Int) (φ:api_Table→Prop) (h :
 table_Keep.L1 x0 x1 z0 ((IntKind.wrap .i64 (z1+1))) φ):L2 x0 x1 z0 z1 φ:=
 mIn <|
 mFin 4 h
theorem enter (x0:api_Table) (x1:List Int) (φ:api_Table→Prop) (h :
 table_Keep.L1 x0 x1 ([]) 0 φ):∃ r,φ r∧C x0 x1 r:=
 mEnt (fd:=Tryz.f35) (body:=B) (V:=W) (res:=res) <|
 mLen 10 enc_api_Row x0.Rows <|
 mFin 2 h
end table_Keep
end Go.Own
namespace Go.Own
open Go.Proofs D
set_option maxRecDepth 100000
set_option maxHeartbeats 4000000
namespace drossref03_cp
noncomputable def B:Code:=(Tryz.f89.body).getD .skip
def W:List Nat:=[0,1,2]
def res (r:api_Row):D×List D:=(.agg [.lit (.int .i64 r.ID),.own (r.Values.map enc_api_Value)],[])
def C (x0 r:api_Row):Prop:=Ret env 89 [.agg [.lit (.int .i64 x0.ID),.sl (x0.Values.map enc_api_Value)]] (res r).1 (res r).2
theorem enter (x0:api_Row) (φ:api_Row→Prop) (h :
 (0+x0.Values.length)*32≤140737488355328 ∧
 φ x0):∃ r,φ r∧C x0 r:=
 mEnt (fd:=Tryz.f89) (body:=B) (V:=W) (res:=res) <|
 mAppL 10 enc_api_Value ([]) x0.Values h fun h=>
 mRet 3 h
end drossref03_cp
end Go.Own
namespace Go.Own
open Go.Proofs D
set_option maxRecDepth 100000
set_option maxHeartbeats 4000000
namespace drossref03_With
noncomputable def B:Code:=(Tryz.f71.body).getD .skip
def W:List Nat:=[0,1,2,4,5,6,17]
def res (r:api_Table):D×List D:=(.agg [.lit (.string r.Name),.own (r.Attrs.map eS),.own (r.Rows.map enc_api_Row_2)],[])
def C (x0:api_Table) (x1:List api_Row) (r:api_Table):Prop:=Ret env 71 [.agg [.lit (.string x0.Name),.sl (x0.Attrs.map eS),.sl (x0.Rows.map enc_api_Row)],.sl (x1.map enc_api_Row)] (res r).1 (res r).2
def L1 (x1:List api_Row) (x0:api_Table) (z0:List api_Row) (z1:Int) (φ:api_Table→Prop):Prop:=Pt env 71 W B [1,1,0,1,0] [(1,.sl (x1.map enc_api_Row)),(4,.box [.lit (.string ((⟨#[]⟩:ByteArray))),.own [],.own []]),(5,.box [.lit (.string x0.Name),.own (x0.Attrs.map eS),.own (z0.map enc_api_Row_2)]),(6,.lit (.int .i64 z1))] (Lv env 71 Tryz.f71 2 res φ)
theorem L1_step (x1:List api_Row) (x0:api_Table) (z0:List api_Row) (z1:Int) (φ:api_Table→Prop) (h :
 (if z1<(x1.length:Int) then
 ∃ a2,lget x1 z1=some a2 ∧
 ∃ r4:api_Row,drossref03_cp.C a2 r4 ∧
 (z0.length+1)*32≤140737488355328 ∧
 drossref03_With.L1 x1 x0 ((z0++[r4])) ((IntKind.wrap .i64 (z1+1))) φ
 else
 φ ((⟨x0.Name,x0.Attrs,z0⟩:api_Table)))):L1 x1 x0 z0 z1 φ:=
 mIn <|
 mLen 4 enc_api_Row x1 <|
 mAsk 0 h dT dF (fun h=>
 mIx 8 enc_api_Row h fun a2 h3 h=>
 mLo 1 h (fun _ h=>h) (hf:=(fun _=>loF_flat (flat_agg (flts_cons rfl (flts_cons (flat_ow (e:=enc_api_Value) (fun _=>rfl)) flts_nil))))) fun r4 _ h=>
 mApp 1 enc_api_Row_2 z0 ([r4]) h fun h=>
 mFin 8 h) fun h=>
 mRet 7 h
theorem enter (x0:api_Table) (x1:List api_Row) (φ:api_Table→Prop) (h :
 (0+x0.Attrs.length)*16≤140737488355328 ∧
 drossref03_With.L1 x1 x0 ([]) 0 φ):∃ r,φ r∧C x0 x1 r:=
 mEnt (fd:=Tryz.f71) (body:=B) (V:=W) (res:=res) <|
 mAppL 10 eS ([]) x0.Attrs h fun h=>
 mFin 7 h
end drossref03_With
end Go.Own
namespace Go.Own
open Go.Proofs D
set_option maxRecDepth 100000
set_option maxHeartbeats 4000000
namespace drossref03_Has
noncomputable def B:Code:=(Tryz.f70.body).getD .skip
def W:List Nat:=[0,1,4,5,9,17]
def res (r:Bool):D×List D:=(.lit (.bool r),[])
def C (x0:List Int) (x1:Int) (r:Bool):Prop:=Ret env 70 [.sl (x0.map (eI .i64)),.lit (.int .i64 x1)] (res r).1 (res r).2
def L1 (x0:List Int) (x1 z0:Int) (φ:Bool→Prop):Prop:=Pt env 70 W B [1,0,1,0] [(0,.sl (x0.map (eI .i64))),(1,.lit (.int .i64 x1)),(5,.lit (.int .i64 z0))] (Lv env 70 Tryz.f70 2 res φ)
theorem L1_step (x0:List Int) (x1 z0:Int) (φ:Bool→Prop) (h :
 (if z0<(x0.length:Int) then
 ∃ a1,lget x0 z0=some a1 ∧
 (if a1=x1 then
 φ true
 else
 drossref03_Has.L1 x0 x1 ((IntKind.wrap .i64 (z0+1))) φ)
 else
 φ false)):L1 x0 x1 z0 φ:=
 mIn <|
 mLen 4 (eI .i64) x0 <|
 mAsk 0 h dT dF (fun h=>
 mIx 6 (eI .i64) h fun a1 h2 h=>
 mAsk 2 h beq_t beq_f (fun h=>
 mRet 5 h) fun h=>
 mFin 8 h) fun h=>
 mRet 6 h
theorem enter (x0:List Int) (x1:Int) (φ:Bool→Prop) (h :
 drossref03_Has.L1 x0 x1 0 φ):∃ r,φ r∧C x0 x1 r:=
 mEnt (fd:=Tryz.f70) (body:=B) (V:=W) (res:=res) <|
 mFin 6 h
end drossref03_Has
end Go.Own
namespace Go.Own
open Go.Proofs D
set_option maxRecDepth 100000
set_option maxHeartbeats 4000000
namespace drossref03_Keep
noncomputable def B:Code:=(Tryz.f46.body).getD .skip
def W:List Nat:=[0,1,2,4,5,6,11,21]
def res (r:api_Table):D×List D:=(.agg [.lit (.string r.Name),.own (r.Attrs.map eS),.own (r.Rows.map enc_api_Row_2)],[])
def C (x0:api_Table) (x1:List Int) (r:api_Table):Prop:=Ret env 46 [.agg [.lit (.string x0.Name),.sl (x0.Attrs.map eS),.sl (x0.Rows.map enc_api_Row)],.sl (x1.map (eI .i64))] (res r).1 (res r).2
def L1 (x0:api_Table) (x1:List Int) (z0:List api_Row) (z1:Int) (φ:api_Table→Prop):Prop:=Pt env 46 W B [1,1,0,1,0] [(0,.agg [.lit (.string x0.Name),.sl (x0.Attrs.map eS),.sl (x0.Rows.map enc_api_Row)]),(1,.sl (x1.map (eI .i64))),(2,.box [.lit (.string x0.Name),.sl (x0.Attrs.map eS),.sl (x0.Rows.map enc_api_Row)]),(4,.box [.lit (.string ((⟨#[]⟩:ByteArray))),.own [],.own []]),(5,.own (z0.map enc_api_Row)),(6,.lit (.int .i64 z1))] (Lv env 46 Tryz.f46 2 res φ)
def L2 (x0:api_Table) (x1:List Int) (z0:List api_Row) (z1:Int) (φ:api_Table→Prop):Prop:=Pt env 46 W B [1,1,0,1,0,0,1,1] [(0,.agg [.lit (.string x0.Name),.sl (x0.Attrs.map eS),.sl (x0.Rows.map enc_api_Row)]),(1,.sl (x1.map (eI .i64))),(2,.box [.lit (.string x0.Name),.sl (x0.Attrs.map eS),.sl (x0.Rows.map enc_api_Row)]),(4,.box [.lit (.string ((⟨#[]⟩:ByteArray))),.own [],.own []]),(5,.own (z0.map enc_api_Row)),(6,.lit (.int .i64 z1))] (Lv env 46 Tryz.f46 2 res φ)
theorem L1_step (x0:api_Table) (x1:List Int) (z0:List api_Row) (z1:Int) (φ:api_Table→Prop) (h :
 (if z1<(x0.Rows.length:Int) then
 ∃ a1,lget x0.Rows z1=some a1 ∧
 ∃ r3:Bool,drossref03_Has.C x1 a1.ID r3 ∧
 (if r3=true then
 (z0.length+1)*32≤140737488355328 ∧
 drossref03_Keep.L2 x0 x1 ((z0++[a1])) z1 φ
 else
 drossref03_Keep.L2 x0 x1 z0 z1 φ)
 else
 ∃ r5:api_Table,drossref03_With.C x0 z0 r5 ∧
 φ r5)):L1 x0 x1 z0 z1 φ:=
 mIn <|
 mLen 5 enc_api_Row x0.Rows <|
 mAsk 0 h dT dF (fun h=>
 mIx 8 enc_api_Row h fun a1 h2 h=>
 mCalB 2 h (fun _ h=>h) (fun _ h=>
 mIxf 7 enc_api_Row h2 <|
 mApp 2 enc_api_Row z0 ([a1]) h fun h=>
 mFin 2 h) fun _ h=>
 mFin 3 h) fun h=>
 mCal 6 h (fun _ h=>h) (hr:=by exact (pr_k (pr_snap (snap_ow (s:=5) (ps:=[]) (l:=z0) (e:=enc_api_Row) (e':=enc_api_Row) (fun _=>rfl) (by kernel_rfl)) pr_nil))) (hf:=(fun _=>clF_flat (flat_agg (flts_cons rfl (flts_cons (flat_ow (e:=eS) (fun _=>rfl)) (flts_cons (flat_ow (e:=enc_api_Row_2) (fun _=>(flts_cons rfl (flts_cons (flat_ow (e:=enc_api_Value) (fun _=>rfl)) flts_nil)))) flts_nil)))) rfl)) fun r5 _ h=>
 mRet 2 h
theorem L2_step (x0:api_Table) (x1:List Int) (z0:List api_Row) (z1:Int) (φ:api_Table→Prop) (h :
 drossref03_Keep.L1 x0 x1 z0 ((IntKind.wrap .i64 (z1+1))) φ):L2 x0 x1 z0 z1 φ:=
 mIn <|
 mFin 5 h
theorem enter (x0:api_Table) (x1:List Int) (φ:api_Table→Prop) (h :
 drossref03_Keep.L1 x0 x1 ([]) 0 φ):∃ r,φ r∧C x0 x1 r:=
 mEnt (fd:=Tryz.f46) (body:=B) (V:=W) (res:=res) <|
 mFin 10 h
end drossref03_Keep
end Go.Own
namespace Go.Own
open Go.Proofs D
set_option maxRecDepth 100000
set_option maxHeartbeats 4000000
namespace drossref51_Sorted
noncomputable def B:Code:=(Tryz.f27.body).getD .skip
def W:List Nat:=[0,1,2,4,5,6,10]
def res (r:api_Table):D×List D:=(.agg [.lit (.string r.Name),.own (r.Attrs.map eS),.own (r.Rows.map enc_api_Row_2)],[])
def C (x0:api_Table) (x1:List api_Row) (r:api_Table):Prop:=Ret env 27 [.agg [.lit (.string x0.Name),.sl (x0.Attrs.map eS),.sl (x0.Rows.map enc_api_Row)],.sl (x1.map enc_api_Row)] (res r).1 (res r).2
def L1 (x0:api_Table) (x1:List api_Row) (z0:List Int) (z1:Int) (φ:api_Table→Prop):Prop:=Pt env 27 W B [1,1,0,1,0] [(0,.agg [.lit (.string x0.Name),.sl (x0.Attrs.map eS),.sl (x0.Rows.map enc_api_Row)]),(1,.sl (x1.map enc_api_Row)),(2,.box [.lit (.string x0.Name),.sl (x0.Attrs.map eS),.sl (x0.Rows.map enc_api_Row)]),(4,.box [.lit (.string ((⟨#[]⟩:ByteArray))),.own [],.own []]),(5,.own (z0.map (eI .i64))),(6,.lit (.int .i64 z1))] (Lv env 27 Tryz.f27 2 res φ)
theorem L1_step (x0:api_Table) (x1:List api_Row) (z0:List Int) (z1:Int) (φ:api_Table→Prop) (h :
 (if z1<(x1.length:Int) then
 ∃ a1,lget x1 z1=some a1 ∧
 (z0.length+1)*8≤140737488355328 ∧
 drossref51_Sorted.L1 x0 x1 ((z0++[a1.ID])) ((IntKind.wrap .i64 (z1+1))) φ
 else
 ∃ r4:api_Table,drossref03_Keep.C x0 z0 r4 ∧
 φ r4)):L1 x0 x1 z0 z1 φ:=
 mIn <|
 mLen 4 enc_api_Row x1 <|
 mAsk 0 h dT dF (fun h=>
 mIx 7 enc_api_Row h fun a1 h2 h=>
 mApp 3 (eI .i64) z0 ([a1.ID]) h fun h=>
 mFin 7 h) fun h=>
 mCal 6 h (fun _ h=>h) (hr:=by exact (pr_k (pr_snap (snap_ow (s:=5) (ps:=[]) (l:=z0) (e:=(eI .i64)) (e':=(eI .i64)) (fun _=>rfl) (by kernel_rfl)) pr_nil))) (hf:=(fun _=>clF_flat (flat_agg (flts_cons rfl (flts_cons (flat_ow (e:=eS) (fun _=>rfl)) (flts_cons (flat_ow (e:=enc_api_Row_2) (fun _=>(flts_cons rfl (flts_cons (flat_ow (e:=enc_api_Value) (fun _=>rfl)) flts_nil)))) flts_nil)))) rfl)) fun r4 _ h=>
 mRet 2 h
theorem enter (x0:api_Table) (x1:List api_Row) (φ:api_Table→Prop) (h :
 drossref51_Sorted.L1 x0 x1 ([]) 0 φ):∃ r,φ r∧C x0 x1 r:=
 mEnt (fd:=Tryz.f27) (body:=B) (V:=W) (res:=res) <|
 mFin 10 h
end drossref51_Sorted
end Go.Own
namespace Go.Own
open Go.Proofs D
set_option maxRecDepth 100000
set_option maxHeartbeats 4000000
namespace drossref03_EqualRows
noncomputable def B:Code:=(Tryz.f45.body).getD .skip
def W:List Nat:=[0,1,2,3,4]
def res (r:Bool):D×List D:=(.lit (.bool r),[])
def C (x0 x1:api_Row) (r:Bool):Prop:=Ret env 45 [.agg [.lit (.int .i64 x0.ID),.sl (x0.Values.map enc_api_Value)],.agg [.lit (.int .i64 x1.ID),.sl (x1.Values.map enc_api_Value)]] (res r).1 (res r).2
theorem enter (x0 x1:api_Row) (φ:Bool→Prop) (h :
 (if x0.ID=x1.ID then
 ∃ r1:Bool,drossref01_Same.C x0.Values x1.Values r1 ∧
 φ r1
 else
 φ false)):∃ r,φ r∧C x0 x1 r:=
 mEnt (fd:=Tryz.f45) (body:=B) (V:=W) (res:=res) <|
 mAsk 10 h beq_t beq_f (fun h=>
 mCal 5 h (fun _ h=>h) fun r1 _ h=>
 mRet 3 h) fun h=>
 mRet 9 h
end drossref03_EqualRows
end Go.Own
namespace Go.Own
open Go.Proofs D
set_option maxRecDepth 100000
set_option maxHeartbeats 4000000
namespace drossref03_Strings
noncomputable def B:Code:=(Tryz.f44.body).getD .skip
def W:List Nat:=[0,1,4,5,10,14,25]
def res (r:Bool):D×List D:=(.lit (.bool r),[])
def C (x0 x1:List ByteArray) (r:Bool):Prop:=Ret env 44 [.sl (x0.map eS),.sl (x1.map eS)] (res r).1 (res r).2
def L1 (x0 x1:List ByteArray) (z0:Int) (φ:Bool→Prop):Prop:=Pt env 44 W B [1,1,0,1,0] [(0,.sl (x0.map eS)),(1,.sl (x1.map eS)),(5,.lit (.int .i64 z0))] (Lv env 44 Tryz.f44 2 res φ)
theorem L1_step (x0 x1:List ByteArray) (z0:Int) (φ:Bool→Prop) (h :
 (if z0<(x0.length:Int) then
 ∃ a1,lget x0 z0=some a1 ∧
 ∃ a3,lget x1 z0=some a3 ∧
 (if a1.toList=a3.toList then
 drossref03_Strings.L1 x0 x1 ((IntKind.wrap .i64 (z0+1))) φ
 else
 φ false)
 else
 φ true)):L1 x0 x1 z0 φ:=
 mIn <|
 mLen 4 eS x0 <|
 mAsk 0 h dT dF (fun h=>
 mIx 6 eS h fun a1 h2 h=>
 mIx 3 eS h fun a3 h4 h=>
 mAskN 1 h (fun h=>seq_f (not_t h)) (fun h=>seq_t (not_f h)) (fun h=>
 mRet 5 h) fun h=>
 mFin 8 h) fun h=>
 mRet 6 h
theorem enter (x0 x1:List ByteArray) (φ:Bool→Prop) (h :
 (if (x0.length:Int)=(x1.length:Int) then
 drossref03_Strings.L1 x0 x1 0 φ
 else
 φ false)):∃ r,φ r∧C x0 x1 r:=
 mEnt (fd:=Tryz.f44) (body:=B) (V:=W) (res:=res) <|
 mLen 5 eS x0 <|
 mLen 1 eS x1 <|
 mAskN 0 h bne_t bne_f (fun h=>
 mRet 5 h) fun h=>
 mFin 6 h
end drossref03_Strings
end Go.Own
namespace Go.Own
open Go.Proofs D
set_option maxRecDepth 100000
set_option maxHeartbeats 4000000
namespace drossref03_Equal
noncomputable def B:Code:=(Tryz.f26.body).getD .skip
def W:List Nat:=[0,1,2,3,4,5,27,32,46]
def res (r:Bool):D×List D:=(.lit (.bool r),[])
def C (x0 x1:api_Table) (r:Bool):Prop:=Ret env 26 [.agg [.lit (.string x0.Name),.sl (x0.Attrs.map eS),.sl (x0.Rows.map enc_api_Row)],.agg [.lit (.string x1.Name),.sl (x1.Attrs.map eS),.sl (x1.Rows.map enc_api_Row)]] (res r).1 (res r).2
def L1 (x0 x1:api_Table) (z0:Int) (φ:Bool→Prop):Prop:=Pt env 26 W B [1,1,0,1,0] [(0,.agg [.lit (.string x0.Name),.sl (x0.Attrs.map eS),.sl (x0.Rows.map enc_api_Row)]),(1,.agg [.lit (.string x1.Name),.sl (x1.Attrs.map eS),.sl (x1.Rows.map enc_api_Row)]),(2,.box [.lit (.string x0.Name),.sl (x0.Attrs.map eS),.sl (x0.Rows.map enc_api_Row)]),(3,.box [.lit (.string x1.Name),.sl (x1.Attrs.map eS),.sl (x1.Rows.map enc_api_Row)]),(5,.lit (.int .i64 z0))] (Lv env 26 Tryz.f26 2 res φ)
theorem L1_step (x0 x1:api_Table) (z0:Int) (φ:Bool→Prop) (h :
 (if z0<(x0.Rows.length:Int) then
 ∃ a2,lget x0.Rows z0=some a2 ∧
 ∃ a4,lget x1.Rows z0=some a4 ∧
 ∃ r6:Bool,drossref03_EqualRows.C a2 a4 r6 ∧
 (if r6=true then
 drossref03_Equal.L1 x0 x1 ((IntKind.wrap .i64 (z0+1))) φ
 else
 φ false)
 else
 φ true)):L1 x0 x1 z0 φ:=
 mIn <|
 mLen 5 enc_api_Row x0.Rows <|
 mAsk 0 h dT dF (fun h=>
 mIx 7 enc_api_Row h fun a2 h3 h=>
 mIx 4 enc_api_Row h fun a4 h5 h=>
 mCalB 1 h (fun _ h=>h) (fun _ h=>
 mFin 9 h) fun _ h=>
 mRet 6 h) fun h=>
 mRet 6 h
theorem enter (x0 x1:api_Table) (φ:Bool→Prop) (h :
 (if x0.Name.toList=x1.Name.toList then
 ∃ r1:Bool,drossref03_Strings.C x0.Attrs x1.Attrs r1 ∧
 (if r1=true then
 (if (x0.Rows.length:Int)=(x1.Rows.length:Int) then
 drossref03_Equal.L1 x0 x1 0 φ
 else
 φ false)
 else
 φ false)
 else
 φ false)):∃ r,φ r∧C x0 x1 r:=
 mEnt (fd:=Tryz.f26) (body:=B) (V:=W) (res:=res) <|
 mAskN 10 h (fun h=>seq_f (not_t h)) (fun h=>seq_t (not_f h)) (fun h=>
 mRet 22 h) fun h=>
 mCalB 5 h (fun _ h=>h) (fun _ h=>
 mLen 5 enc_api_Row x0.Rows <|
 mLen 2 enc_api_Row x1.Rows <|
 mAskN 0 h bne_t bne_f (fun h=>
 mRet 6 h) fun h=>
 mFin 7 h) fun _ h=>
 mRet 16 h
end drossref03_Equal
end Go.Own
namespace Go.Own
open Go.Proofs D
set_option maxRecDepth 100000
set_option maxHeartbeats 4000000
namespace aggregate_repair
noncomputable def B:Code:=(Tryz.f18.body).getD .skip
def W:List Nat:=[0,1,2,3,4,5,6,12,13,14,15,16,17,18,20,31,36,50,51,52,53]
def res (r:api_Table×Int):D×List D:=(.tup [.agg [.lit (.string r.1.Name),.own (r.1.Attrs.map eS),.own (r.1.Rows.map enc_api_Row_2)],.lit (.int .i64 r.2)],[])
def C (x0:api_Table) (x1:Int) (x2:List api_Condition) (x3 x4:Int) (x5:Bool) (r:api_Table×Int):Prop:=Ret env 18 [.agg [.lit (.string x0.Name),.sl (x0.Attrs.map eS),.sl (x0.Rows.map enc_api_Row)],.lit (.int .u32 x1),.sl (x2.map enc_api_Condition),.lit (.int .i64 x3),.lit (.int .i64 x4),.lit (.bool x5)] (res r).1 (res r).2
def L1 (x0:api_Table) (r3:List aggregate_group×Bool) (z0:List Int) (z1:Int) (φ:api_Table×Int→Prop):Prop:=Pt env 18 W B [1,1,1,1,1,1,0,1,0] [(0,.agg [.lit (.string x0.Name),.sl (x0.Attrs.map eS),.sl (x0.Rows.map enc_api_Row)]),(6,.box [.lit (.string x0.Name),.sl (x0.Attrs.map eS),.sl (x0.Rows.map enc_api_Row)]),(12,.box [.lit (.string ((⟨#[]⟩:ByteArray))),.own [],.own []]),(16,.own (r3.1.map enc_aggregate_group_2)),(18,.own (z0.map (eI .i64))),(50,.alias 16 []),(51,.lit (.int .i64 ((r3.1.length:Int)))),(52,.lit (.int .i64 z1))] (Lv env 18 Tryz.f18 6 res φ)
theorem L1_step (x0:api_Table) (r3:List aggregate_group×Bool) (z0:List Int) (z1:Int) (φ:api_Table×Int→Prop) (h :
 (if z1<(r3.1.length:Int) then
 ∃ a4,lget r3.1 z1=some a4 ∧
 (z0.length+a4.ids.length)*8≤140737488355328 ∧
 aggregate_repair.L1 x0 r3 ((z0++a4.ids)) ((IntKind.wrap .i64 (z1+1))) φ
 else
 ∃ r7:api_Table,table_Keep.C x0 z0 r7 ∧
 φ ((r7,0)))):L1 x0 r3 z0 z1 φ:=
 mIn <|
 mAsk 2 h dT dF (fun h=>
 mIy 4 enc_aggregate_group_2 h fun a4 h5 h=>
 mLd 0 enc_aggregate_group_2 h5 <|
 mApp 7 (eI .i64) z0 a4.ids h fun h=>
 mFin 6 h) fun h=>
 mCal 6 h (fun _ h=>h) (hr:=by exact (pr_k (pr_snap (snap_ow (s:=18) (ps:=[]) (l:=z0) (e:=(eI .i64)) (e':=(eI .i64)) (fun _=>rfl) (by kernel_rfl)) pr_nil))) (hf:=(fun _=>clF_flat (flat_agg (flts_cons rfl (flts_cons (flat_ow (e:=eS) (fun _=>rfl)) (flts_cons (flat_ow (e:=enc_api_Row_2) (fun _=>(flts_cons rfl (flts_cons (flat_ow (e:=enc_api_Value) (fun _=>rfl)) flts_nil)))) flts_nil)))) rfl)) fun r7 _ h=>
 mRet 3 h
theorem enter (x0:api_Table) (x1:Int) (x2:List api_Condition) (x3 x4:Int) (x5:Bool) (φ:api_Table×Int→Prop) (h :
 ∃ r1:api_Range×Int,aggregate_Of.C x0 x1 x2 x3 x4 r1 ∧
 (if r1.2=0 then
 (if r1.1.Some=true then
 ∃ r2:List (List aggregate_group),aggregate_groups.C x0 x1 x2 x3 x4 r2 ∧
 ∃ r3:List aggregate_group×Bool,aggregate_extreme.C r2 x3 x5 r3 ∧
 aggregate_repair.L1 x0 r3 ([]) 0 φ
 else
 φ (((⟨(⟨#[]⟩:ByteArray),[],[]⟩:api_Table),4)))
 else
 φ (((⟨(⟨#[]⟩:ByteArray),[],[]⟩:api_Table),r1.2)))):∃ r,φ r∧C x0 x1 x2 x3 x4 x5 r:=
 mEnt (fd:=Tryz.f18) (body:=B) (V:=W) (res:=res) <|
 mCal 11 h (fun _ h=>h) (hf:=(fun _=>clF_flat (flat_tup (flts_cons (flat_agg (flts_cons rfl (flts_cons rfl (flts_cons rfl (flts_cons rfl (flts_cons rfl (flts_cons rfl (flts_cons rfl (flts_cons rfl flts_nil))))))))) (flts_cons rfl flts_nil))) rfl)) fun r1 _ h=>
 mAskN 9 h bne_t bne_f (fun h=>
 mRet 8 h) fun h=>
 mAsk 5 h id fls (fun h=>
 mCalE 10 h (fun _ h=>h) (fun (r2:List (List aggregate_group))=>cold_ow (l:=r2) (e:=(eOw enc_aggregate_group)) (e':=(eSl enc_aggregate_group_2)) rfl (Fzn.ow (fun x=>(fcs_cons (freeze_ow (e:=(eI .i64)) (e':=(eI .i64)) (fun _=>rfl) x.ids) (fcs_cons rfl (fcs_cons rfl (fcs_cons rfl (fcs_cons rfl (fcs_cons rfl (fcs_cons rfl fcs_nil)))))))))) (hf:=(fun _=>clF_flat (flat_ow (e:=(eOw enc_aggregate_group)) (Flt.ow (fun _=>(flts_cons (flat_ow (e:=(eI .i64)) (fun _=>rfl)) (flts_cons rfl (flts_cons rfl (flts_cons rfl (flts_cons rfl (flts_cons rfl (flts_cons rfl flts_nil)))))))))) rfl)) fun r2 _ h=>
 mCal 2 h (fun _ h=>h) (hf:=(fun _=>clF_both)) fun r3 _ h=>
 mLen 11 enc_aggregate_group_2 r3.1 <|
 mFin 2 h) fun h=>
 mRet 8 h
end aggregate_repair
end Go.Own
namespace Go.Own
open Go.Proofs D
set_option maxRecDepth 100000
set_option maxHeartbeats 4000000
namespace aggregate_Least
noncomputable def B:Code:=(Tryz.f6.body).getD .skip
def W:List Nat:=[0,1,2,3,4,5,10,11]
def res (r:api_Table×Int):D×List D:=(.tup [.agg [.lit (.string r.1.Name),.own (r.1.Attrs.map eS),.own (r.1.Rows.map enc_api_Row_2)],.lit (.int .i64 r.2)],[])
def C (x0:api_Table) (x1:Int) (x2:List api_Condition) (x3 x4:Int) (r:api_Table×Int):Prop:=Ret env 6 [.agg [.lit (.string x0.Name),.sl (x0.Attrs.map eS),.sl (x0.Rows.map enc_api_Row)],.lit (.int .u32 x1),.sl (x2.map enc_api_Condition),.lit (.int .i64 x3),.lit (.int .i64 x4)] (res r).1 (res r).2
theorem enter (x0:api_Table) (x1:Int) (x2:List api_Condition) (x3 x4:Int) (φ:api_Table×Int→Prop) (h :
 ∃ r1:api_Table×Int,aggregate_repair.C x0 x1 x2 x3 x4 false r1 ∧
 φ ((r1.1,r1.2))):∃ r,φ r∧C x0 x1 x2 x3 x4 r:=
 mEnt (fd:=Tryz.f6) (body:=B) (V:=W) (res:=res) <|
 mCal 11 h (fun _ h=>h) (hf:=(fun _=>clF_flat (flat_tup (flts_cons (flat_agg (flts_cons rfl (flts_cons (flat_ow (e:=eS) (fun _=>rfl)) (flts_cons (flat_ow (e:=enc_api_Row_2) (fun _=>(flts_cons rfl (flts_cons (flat_ow (e:=enc_api_Value) (fun _=>rfl)) flts_nil)))) flts_nil)))) (flts_cons rfl flts_nil))) rfl)) fun r1 _ h=>
 mRet 5 h
end aggregate_Least
end Go.Own
namespace Go.Own
open Go.Proofs D
set_option maxRecDepth 100000
set_option maxHeartbeats 4000000
namespace aggregate_Greatest
noncomputable def B:Code:=(Tryz.f8.body).getD .skip
def W:List Nat:=[0,1,2,3,4,5,10,11]
def res (r:api_Table×Int):D×List D:=(.tup [.agg [.lit (.string r.1.Name),.own (r.1.Attrs.map eS),.own (r.1.Rows.map enc_api_Row_2)],.lit (.int .i64 r.2)],[])
def C (x0:api_Table) (x1:Int) (x2:List api_Condition) (x3 x4:Int) (r:api_Table×Int):Prop:=Ret env 8 [.agg [.lit (.string x0.Name),.sl (x0.Attrs.map eS),.sl (x0.Rows.map enc_api_Row)],.lit (.int .u32 x1),.sl (x2.map enc_api_Condition),.lit (.int .i64 x3),.lit (.int .i64 x4)] (res r).1 (res r).2
theorem enter (x0:api_Table) (x1:Int) (x2:List api_Condition) (x3 x4:Int) (φ:api_Table×Int→Prop) (h :
 ∃ r1:api_Table×Int,aggregate_repair.C x0 x1 x2 x3 x4 true r1 ∧
 φ ((r1.1,r1.2))):∃ r,φ r∧C x0 x1 x2 x3 x4 r:=
 mEnt (fd:=Tryz.f8) (body:=B) (V:=W) (res:=res) <|
 mCal 11 h (fun _ h=>h) (hf:=(fun _=>clF_flat (flat_tup (flts_cons (flat_agg (flts_cons rfl (flts_cons (flat_ow (e:=eS) (fun _=>rfl)) (flts_cons (flat_ow (e:=enc_api_Row_2) (fun _=>(flts_cons rfl (flts_cons (flat_ow (e:=enc_api_Value) (fun _=>rfl)) flts_nil)))) flts_nil)))) (flts_cons rfl flts_nil))) rfl)) fun r1 _ h=>
 mRet 5 h
end aggregate_Greatest
end Go.Own
namespace Go.Own
open Go.Proofs D
set_option maxRecDepth 100000
set_option maxHeartbeats 4000000
namespace drossref51_Is
noncomputable def B:Code:=(Tryz.f11.body).getD .skip
def W:List Nat:=[0,1,2,3,5,6,7,8,15,25]
def res (r:Bool):D×List D:=(.lit (.bool r),[])
def C (x0:api_Table) (x1:Int) (x2:api_Table) (r:Bool):Prop:=Ret env 11 [.agg [.lit (.string x0.Name),.sl (x0.Attrs.map eS),.sl (x0.Rows.map enc_api_Row)],.lit (.int .u32 x1),.agg [.lit (.string x2.Name),.sl (x2.Attrs.map eS),.sl (x2.Rows.map enc_api_Row)]] (res r).1 (res r).2
def L1 (x0 x2:api_Table) (r1:List (List api_Row)) (z0:Int) (φ:Bool→Prop):Prop:=Pt env 11 W B [1,1,0,1,0] [(0,.agg [.lit (.string x0.Name),.sl (x0.Attrs.map eS),.sl (x0.Rows.map enc_api_Row)]),(2,.agg [.lit (.string x2.Name),.sl (x2.Attrs.map eS),.sl (x2.Rows.map enc_api_Row)]),(3,.box [.lit (.string x0.Name),.sl (x0.Attrs.map eS),.sl (x0.Rows.map enc_api_Row)]),(5,.box [.lit (.string x2.Name),.sl (x2.Attrs.map eS),.sl (x2.Rows.map enc_api_Row)]),(7,.sl (r1.map (eSl enc_api_Row))),(8,.lit (.int .i64 z0))] (Lv env 11 Tryz.f11 3 res φ)
theorem L1_step (x0 x2:api_Table) (r1:List (List api_Row)) (z0:Int) (φ:Bool→Prop) (h :
 (if z0<(r1.length:Int) then
 ∃ a2,lget r1 z0=some a2 ∧
 ∃ r4:api_Table,drossref51_Sorted.C x0 a2 r4 ∧
 ∃ r5:Bool,drossref03_Equal.C r4 x2 r5 ∧
 (if r5=true then
 φ true
 else
 drossref51_Is.L1 x0 x2 r1 ((IntKind.wrap .i64 (z0+1))) φ)
 else
 φ false)):L1 x0 x2 r1 z0 φ:=
 mIn <|
 mLen 4 (eSl enc_api_Row) r1 <|
 mAsk 0 h dT dF (fun h=>
 mIx 7 (eSl enc_api_Row) h fun a2 h3 h=>
 mLo 1 h (fun _ h=>h) (hf:=(fun _=>loF_flat (flat_agg (flts_cons rfl (flts_cons (flat_ow (e:=eS) (fun _=>rfl)) (flts_cons (flat_ow (e:=enc_api_Row_2) (fun _=>(flts_cons rfl (flts_cons (flat_ow (e:=enc_api_Value) (fun _=>rfl)) flts_nil)))) flts_nil)))))) fun r4 _ h=>
 mCalB (A:=fun _=>φ true) 1 h (fun _ h=>h) (hr:=by exact (pr_snap (snap_agg (snaps_cons (d:=.lit (.string r4.Name)) (d':=.lit (.string r4.Name)) (by kernel_rfl) (snaps_cons (d:=.alias 23 [(0,1)]) (d':=.sl (r4.Attrs.map eS)) (snap_ow (s:=23) (ps:=[(0,1)]) (l:=r4.Attrs) (e:=eS) (e':=eS) (fun _=>rfl) (by kernel_rfl)) (snaps_cons (d:=.alias 23 [(0,2)]) (d':=.sl (r4.Rows.map enc_api_Row)) (snap_ow (s:=23) (ps:=[(0,2)]) (l:=r4.Rows) (e:=enc_api_Row_2) (e':=enc_api_Row) (fun x=>(fcs_cons rfl (fcs_cons (freeze_ow (e:=enc_api_Value) (e':=enc_api_Value) (fun _=>rfl) x.Values) fcs_nil))) (by kernel_rfl)) snaps_nil)))) (pr_k pr_nil))) (fun _ h=>
 mRet 5 h) fun _ h=>
 mFin 8 h) fun h=>
 mRet 6 h
theorem enter (x0:api_Table) (x1:Int) (x2:api_Table) (φ:Bool→Prop) (h :
 ∃ r1:List (List api_Row),drossref51_All.C x0 x1 r1 ∧
 drossref51_Is.L1 x0 x2 r1 0 φ):∃ r,φ r∧C x0 x1 x2 r:=
 mEnt (fd:=Tryz.f11) (body:=B) (V:=W) (res:=res) <|
 mCal 8 h (fun _ h=>h) (hf:=(fun _=>clF_both)) fun r1 _ h=>
 mFin 5 h
end drossref51_Is
end Go.Own
namespace Go.Own
open Go.Proofs D
set_option maxRecDepth 100000
set_option maxHeartbeats 4000000
namespace drosslaw51_few
noncomputable def B:Code:=(Tryz.f5.body).getD .skip
def W:List Nat:=[0,1,2,4]
def res (r:Bool):D×List D:=(.lit (.bool r),[])
def C (x0:api_Table) (x1:List api_Condition) (r:Bool):Prop:=Ret env 5 [.agg [.lit (.string x0.Name),.sl (x0.Attrs.map eS),.sl (x0.Rows.map enc_api_Row)],.sl (x1.map enc_api_Condition)] (res r).1 (res r).2
theorem enter (x0:api_Table) (x1:List api_Condition) (φ:Bool→Prop) (h :
 (if (x0.Rows.length:Int)≤8 then
 (if (x0.Attrs.length:Int)≤20 then
 φ ((decide ((x1.length:Int)≤4)))
 else
 φ false)
 else
 φ false)):∃ r,φ r∧C x0 x1 r:=
 mEnt (fd:=Tryz.f5) (body:=B) (V:=W) (res:=res) <|
 mLen 7 enc_api_Row x0.Rows <|
 mAsk 0 h dT dF (fun h=>
 mLen 3 eS x0.Attrs <|
 mAsk 0 h dT dF (fun h=>
 mLen 3 enc_api_Condition x1 <|
 mRet 4 h) fun h=>
 mRet 8 h) fun h=>
 mRet 13 h
end drosslaw51_few
end Go.Own
namespace Go.Own
theorem few51 {t:api_Table} {l:List api_Condition} {r:Bool} (h:r=(if (t.Rows.length:Int)≤8 then (if (t.Attrs.length:Int)≤20 then decide ((l.length:Int)≤4) else false) else false)):drosslaw51_few.C t l r:=by
 obtain ⟨q,h1,h2⟩:=drosslaw51_few.enter t l (fun q=>q=r) (by
  split at h
  ·rename_i a;rw [if_pos a]
   split at h
   ·rename_i b;rw [if_pos b];exact h.symm
   ·rename_i b;rw [if_neg b];exact h.symm
  ·rename_i a;rw [if_neg a];exact h.symm)
 rw [← h1];exact h2
end Go.Own
namespace Go.Own
open Go.Proofs D
set_option maxRecDepth 100000
set_option maxHeartbeats 4000000
namespace drosslaw51_awake
def res (r:Bool):D×List D:=(.lit (.bool r),[])
def C  (r:Bool):Prop:=Ret env 4 [] (res r).1 (res r).2
end drosslaw51_awake
end Go.Own
namespace Go.Own
set_option maxRecDepth 1000000
theorem drosslaw51_awake.run:callN env 400 4 []=some (.lit (.bool true),[]):=by kernel_rfl
theorem drosslaw51_awake.spec:drosslaw51_awake.C true:=Ret.of drosslaw51_awake.run
end Go.Own
namespace Go.Own
open Go.Proofs D
set_option maxRecDepth 100000
set_option maxHeartbeats 4000000
namespace drosslaw51_AggregateExtremes
noncomputable def B:Code:=(Tryz.f3.body).getD .skip
def W:List Nat:=[0,1,2,3,4,5,6,7,8,9,10,11,12,13,23,75,77]
def res (r:Bool):D×List D:=(.lit (.bool r),[])
def C (x0:drosslaw51_Job) (r:Bool):Prop:=Ret env 3 [.agg [.lit (.string x0.T.Name),.sl (x0.T.Attrs.map eS),.sl (x0.T.Rows.map enc_api_Row),.lit (.int .u32 x0.Key),.sl (x0.L.map enc_api_Condition),.lit (.int .i64 x0.Kind),.lit (.int .i64 x0.Attr)]] (res r).1 (res r).2
def L2 (x0:drosslaw51_Job) (r33 r35:api_Table×Int) (r36:drossref51_Bounds×Int) (z0:Int) (φ:Bool→Prop):Prop:=Pt env 3 W B [1,1,1,1,1,1,0,0] [(0,.agg [.lit (.string x0.T.Name),.sl (x0.T.Attrs.map eS),.sl (x0.T.Rows.map enc_api_Row),.lit (.int .u32 x0.Key),.sl (x0.L.map enc_api_Condition),.lit (.int .i64 x0.Kind),.lit (.int .i64 x0.Attr)]),(1,.box [.lit (.string x0.T.Name),.sl (x0.T.Attrs.map eS),.sl (x0.T.Rows.map enc_api_Row),.lit (.int .u32 x0.Key),.sl (x0.L.map enc_api_Condition),.lit (.int .i64 x0.Kind),.lit (.int .i64 x0.Attr)]),(3,.box [.lit (.string r33.1.Name),.sl (r33.1.Attrs.map eS),.sl (r33.1.Rows.map enc_api_Row)]),(4,.lit (.int .i64 r33.2)),(5,.box [.lit (.string r35.1.Name),.sl (r35.1.Attrs.map eS),.sl (r35.1.Rows.map enc_api_Row)]),(6,.lit (.int .i64 r35.2)),(7,.box [.lit (.int .i64 r36.1.Least.Value.Kind),.lit (.int .i64 r36.1.Least.Value.Num),.lit (.string r36.1.Least.Value.Str),.lit (.int .i64 r36.1.Least.Sum.High),.lit (.int .i64 r36.1.Least.Sum.Low),.lit (.bool r36.1.Least.OK),.lit (.int .i64 r36.1.Greatest.Value.Kind),.lit (.int .i64 r36.1.Greatest.Value.Num),.lit (.string r36.1.Greatest.Value.Str),.lit (.int .i64 r36.1.Greatest.Sum.High),.lit (.int .i64 r36.1.Greatest.Sum.Low),.lit (.bool r36.1.Greatest.OK),.lit (.bool r36.1.Some),.lit (.bool r36.1.Every)]),(8,.lit (.int .i64 z0))] (Lv env 3 Tryz.f3 1 res φ)
def L3  (φ:Bool→Prop):Prop:=Pt env 3 W B [1,0,1,0,0] [] (Lv env 3 Tryz.f3 1 res φ)
def L1 (x0:drosslaw51_Job) (r15 r17:api_Table×Int) (r18:drossref51_Bounds×Int) (r19 r20:drossref51_Result×Int) (z0:Bool) (φ:Bool→Prop):Prop:=Pt env 3 W B [1,1,1,1,1,1,1,1,1,1,0] [(0,.agg [.lit (.string x0.T.Name),.sl (x0.T.Attrs.map eS),.sl (x0.T.Rows.map enc_api_Row),.lit (.int .u32 x0.Key),.sl (x0.L.map enc_api_Condition),.lit (.int .i64 x0.Kind),.lit (.int .i64 x0.Attr)]),(1,.box [.lit (.string x0.T.Name),.sl (x0.T.Attrs.map eS),.sl (x0.T.Rows.map enc_api_Row),.lit (.int .u32 x0.Key),.sl (x0.L.map enc_api_Condition),.lit (.int .i64 x0.Kind),.lit (.int .i64 x0.Attr)]),(3,.box [.lit (.string r15.1.Name),.sl (r15.1.Attrs.map eS),.sl (r15.1.Rows.map enc_api_Row)]),(5,.box [.lit (.string r17.1.Name),.sl (r17.1.Attrs.map eS),.sl (r17.1.Rows.map enc_api_Row)]),(7,.box [.lit (.int .i64 r18.1.Least.Value.Kind),.lit (.int .i64 r18.1.Least.Value.Num),.lit (.string r18.1.Least.Value.Str),.lit (.int .i64 r18.1.Least.Sum.High),.lit (.int .i64 r18.1.Least.Sum.Low),.lit (.bool r18.1.Least.OK),.lit (.int .i64 r18.1.Greatest.Value.Kind),.lit (.int .i64 r18.1.Greatest.Value.Num),.lit (.string r18.1.Greatest.Value.Str),.lit (.int .i64 r18.1.Greatest.Sum.High),.lit (.int .i64 r18.1.Greatest.Sum.Low),.lit (.bool r18.1.Greatest.OK),.lit (.bool r18.1.Some),.lit (.bool r18.1.Every)]),(9,.box [.lit (.int .i64 r19.1.Value.Kind),.lit (.int .i64 r19.1.Value.Num),.lit (.string r19.1.Value.Str),.lit (.int .i64 r19.1.Sum.High),.lit (.int .i64 r19.1.Sum.Low),.lit (.bool r19.1.OK)]),(11,.box [.lit (.int .i64 r20.1.Value.Kind),.lit (.int .i64 r20.1.Value.Num),.lit (.string r20.1.Value.Str),.lit (.int .i64 r20.1.Sum.High),.lit (.int .i64 r20.1.Sum.Low),.lit (.bool r20.1.OK)]),(13,.lit (.bool z0))] (Lv env 3 Tryz.f3 1 res φ)
theorem L2_step (x0:drosslaw51_Job) (r33 r35:api_Table×Int) (r36:drossref51_Bounds×Int) (z0:Int) (φ:Bool→Prop) (h :
 (if z0=0 then
 ∃ r52:drossref51_Result×Int,drossref51_Value.C r33.1 x0.L x0.Kind x0.Attr r52 ∧
 ∃ r53:drossref51_Result×Int,drossref51_Value.C r35.1 x0.L x0.Kind x0.Attr r53 ∧
 (if r33.2=0 then
 (if r35.2=0 then
 (if r52.2=0 then
 drosslaw51_AggregateExtremes.L1 x0 r33 r35 r36 r52 r53 ((r53.2 == 0)) φ
 else
 drosslaw51_AggregateExtremes.L1 x0 r33 r35 r36 r52 r53 false φ)
 else
 drosslaw51_AggregateExtremes.L1 x0 r33 r35 r36 r52 r53 false φ)
 else
 drosslaw51_AggregateExtremes.L1 x0 r33 r35 r36 r52 r53 false φ)
 else
 (if r33.2=z0 then
 (if r35.2=z0 then
 φ (((IntKind.wrap .i64 ((r33.1.Attrs.length:Int)+(r35.1.Attrs.length:Int))) == 0))
 else
 φ false)
 else
 φ false))):L2 x0 r33 r35 r36 z0 φ:=
 mIn <|
 mAskN 2 h bne_t bne_f (fun h=>
 mAsk 5 h beq_t beq_f (fun h=>
 mAsk 3 h beq_t beq_f (fun h=>
 mLen 4 eS r33.1.Attrs <|
 mLen 2 eS r35.1.Attrs <|
 mRet 5 h) fun h=>
 mRet 13 h) fun h=>
 mRet 17 h) fun h=>
 mCal 11 h (fun _ h=>h) (hf:=(fun _=>clF_flat (flat_tup (flts_cons (flat_agg (flts_cons rfl (flts_cons rfl (flts_cons rfl (flts_cons rfl (flts_cons rfl (flts_cons rfl flts_nil))))))) (flts_cons rfl flts_nil))) rfl)) fun r52 _ h=>
 mCal 15 h (fun _ h=>h) (hf:=(fun _=>clF_flat (flat_tup (flts_cons (flat_agg (flts_cons rfl (flts_cons rfl (flts_cons rfl (flts_cons rfl (flts_cons rfl (flts_cons rfl flts_nil))))))) (flts_cons rfl flts_nil))) rfl)) fun r53 _ h=>
 mAsk 9 h beq_t beq_f (fun h=>
 mAsk 2 h beq_t beq_f (fun h=>
 mAsk 3 h beq_t beq_f (fun h=>
 mFin 7 h) fun h=>
 mFin 7 h) fun h=>
 mFin 11 h) fun h=>
 mFin 14 h
theorem L3_step  (φ:Bool→Prop) (h :
 ∃ r54:Bool,drosslaw51_awake.C  r54 ∧
 φ r54):L3  φ:=
 mIn <|
 mCal 1 h (fun _ h=>h) fun r54 _ h=>
 mRet 2 h
theorem L1_step (x0:drosslaw51_Job) (r15 r17:api_Table×Int) (r18:drossref51_Bounds×Int) (r19 r20:drossref51_Result×Int) (z0:Bool) (φ:Bool→Prop) (h :
 (if z0=true then
 ∃ r55:Bool,drossref51_Is.C x0.T x0.Key r15.1 r55 ∧
 (if r55=true then
 ∃ r56:Bool,drossref51_Is.C x0.T x0.Key r17.1 r56 ∧
 (if r56=true then
 (if r19.1.OK=true then
 (if r20.1.OK=true then
 (if (and (r19.1.Value.Kind == r18.1.Least.Value.Kind) (and (r19.1.Value.Num == r18.1.Least.Value.Num) (and (r19.1.Value.Str.toList == r18.1.Least.Value.Str.toList) true)))=true then
 φ ((and (r20.1.Value.Kind == r18.1.Greatest.Value.Kind) (and (r20.1.Value.Num == r18.1.Greatest.Value.Num) (and (r20.1.Value.Str.toList == r18.1.Greatest.Value.Str.toList) true))))
 else
 φ false)
 else
 φ false)
 else
 φ false)
 else
 φ false)
 else
 φ false)
 else
 φ false)):L1 x0 r15 r17 r18 r19 r20 z0 φ:=
 mIn <|
 mAsk 1 h id fls (fun h=>
 mCalB 6 h (fun _ h=>h) (fun _ h=>
 mCalB 7 h (fun _ h=>h) (fun _ h=>
 mAsk 3 h id fls (fun h=>
 mAsk 3 h id fls (fun h=>
 mBiA 7 h id fls (hd:=(bin_aeq (t:=38) (xs:=[.lit (.int .i64 r19.1.Value.Kind),.lit (.int .i64 r19.1.Value.Num),.lit (.string r19.1.Value.Str)]) (ys:=[.lit (.int .i64 r18.1.Least.Value.Kind),.lit (.int .i64 r18.1.Least.Value.Num),.lit (.string r18.1.Least.Value.Str)]) (l:=[(r19.1.Value.Kind == r18.1.Least.Value.Kind),(r19.1.Value.Num == r18.1.Least.Value.Num),(r19.1.Value.Str.toList == r18.1.Least.Value.Str.toList)]))) (fun h=>
 mBi 7 (bin_aeq (t:=38) (xs:=[.lit (.int .i64 r20.1.Value.Kind),.lit (.int .i64 r20.1.Value.Num),.lit (.string r20.1.Value.Str)]) (ys:=[.lit (.int .i64 r18.1.Greatest.Value.Kind),.lit (.int .i64 r18.1.Greatest.Value.Num),.lit (.string r18.1.Greatest.Value.Str)]) (l:=[(r20.1.Value.Kind == r18.1.Greatest.Value.Kind),(r20.1.Value.Num == r18.1.Greatest.Value.Num),(r20.1.Value.Str.toList == r18.1.Greatest.Value.Str.toList)])) <|
 mRet 3 h) fun h=>
 mRet 11 h) fun h=>
 mRet 19 h) fun h=>
 mRet 23 h) fun _ h=>
 mRet 27 h) fun _ h=>
 mRet 35 h) fun h=>
 mRet 42 h
theorem enter (x0:drosslaw51_Job) (φ:Bool→Prop) (h :
 ∃ r45:Bool,drosslaw51_awake.C  r45 ∧
 (if r45=true then
 ∃ r46:Bool,drosslaw51_few.C x0.T x0.L r46 ∧
 (if r46=true then
 x0.L.length*48≤140737488355328 ∧
 ∃ r48:api_Table×Int,aggregate_Least.C x0.T x0.Key x0.L x0.Kind x0.Attr r48 ∧
 x0.L.length*48≤140737488355328 ∧
 ∃ r50:api_Table×Int,aggregate_Greatest.C x0.T x0.Key x0.L x0.Kind x0.Attr r50 ∧
 ∃ r51:drossref51_Bounds×Int,drossref51_Range.C x0.T x0.Key x0.L x0.Kind x0.Attr r51 ∧
 (if r51.2=0 then
 (if r51.1.Some=true then
 drosslaw51_AggregateExtremes.L2 x0 r48 r50 r51 r51.2 φ
 else
 drosslaw51_AggregateExtremes.L2 x0 r48 r50 r51 4 φ)
 else
 drosslaw51_AggregateExtremes.L2 x0 r48 r50 r51 r51.2 φ)
 else
 drosslaw51_AggregateExtremes.L3  φ)
 else
 drosslaw51_AggregateExtremes.L3  φ)):∃ r,φ r∧C x0 r:=
 mEnt (fd:=Tryz.f3) (body:=B) (V:=W) (res:=res) <|
 mCalB 5 h (fun _ h=>h) (fun _ h=>
 mCalB 6 h (fun _ h=>h) (fun _ h=>
 h.elim fun h47 h=>
 mLoP 12 (show Ret env 7 [.sl (x0.L.map enc_api_Condition)] (.own (x0.L.map enc_api_Condition)) [] from ret_clone (k:=5) (b:=48) (e:=enc_api_Condition) (l:=x0.L) (by kernel_rfl) (fun _=>rfl) h47) (hf:=(loF_flat (flat_ow (e:=enc_api_Condition) (fun _=>rfl)))) <|
 mLoE 4 h (fun _ h=>h) (fun (r48:api_Table×Int)=>cold_tup rfl (fcs_cons (freeze_agg (fcs_cons rfl (fcs_cons (freeze_ow (e:=eS) (e':=eS) (fun _=>rfl) r48.1.Attrs) (fcs_cons (freeze_ow (e:=enc_api_Row_2) (e':=enc_api_Row) (fun x=>(fcs_cons rfl (fcs_cons (freeze_ow (e:=enc_api_Value) (e':=enc_api_Value) (fun _=>rfl) x.Values) fcs_nil))) r48.1.Rows) fcs_nil)))) (fcs_cons rfl fcs_nil))) (hr:=by exact (pr_k (pr_k (pr_snap (snap_ow (s:=32) (ps:=[]) (l:=x0.L) (e:=enc_api_Condition) (e':=enc_api_Condition) (fun _=>rfl) (by kernel_rfl)) (pr_k (pr_k pr_nil)))))) (hf:=(fun _=>loF_flat (flat_tup (flts_cons (flat_agg (flts_cons rfl (flts_cons (flat_ow (e:=eS) (fun _=>rfl)) (flts_cons (flat_ow (e:=enc_api_Row_2) (fun _=>(flts_cons rfl (flts_cons (flat_ow (e:=enc_api_Value) (fun _=>rfl)) flts_nil)))) flts_nil)))) (flts_cons rfl flts_nil))))) fun r48 _ h=>
 h.elim fun h49 h=>
 mLoP 14 (show Ret env 7 [.sl (x0.L.map enc_api_Condition)] (.own (x0.L.map enc_api_Condition)) [] from ret_clone (k:=5) (b:=48) (e:=enc_api_Condition) (l:=x0.L) (by kernel_rfl) (fun _=>rfl) h49) (hf:=(loF_flat (flat_ow (e:=enc_api_Condition) (fun _=>rfl)))) <|
 mLoE 4 h (fun _ h=>h) (fun (r50:api_Table×Int)=>cold_tup rfl (fcs_cons (freeze_agg (fcs_cons rfl (fcs_cons (freeze_ow (e:=eS) (e':=eS) (fun _=>rfl) r50.1.Attrs) (fcs_cons (freeze_ow (e:=enc_api_Row_2) (e':=enc_api_Row) (fun x=>(fcs_cons rfl (fcs_cons (freeze_ow (e:=enc_api_Value) (e':=enc_api_Value) (fun _=>rfl) x.Values) fcs_nil))) r50.1.Rows) fcs_nil)))) (fcs_cons rfl fcs_nil))) (hr:=by exact (pr_k (pr_k (pr_snap (snap_ow (s:=47) (ps:=[]) (l:=x0.L) (e:=enc_api_Condition) (e':=enc_api_Condition) (fun _=>rfl) (by kernel_rfl)) (pr_k (pr_k pr_nil)))))) (hf:=(fun _=>loF_flat (flat_tup (flts_cons (flat_agg (flts_cons rfl (flts_cons (flat_ow (e:=eS) (fun _=>rfl)) (flts_cons (flat_ow (e:=enc_api_Row_2) (fun _=>(flts_cons rfl (flts_cons (flat_ow (e:=enc_api_Value) (fun _=>rfl)) flts_nil)))) flts_nil)))) (flts_cons rfl flts_nil))))) fun r50 _ h=>
 mCal 18 h (fun _ h=>h) (hf:=(fun _=>clF_flat (flat_tup (flts_cons (flat_agg (flts_cons rfl (flts_cons rfl (flts_cons rfl (flts_cons rfl (flts_cons rfl (flts_cons rfl (flts_cons rfl (flts_cons rfl (flts_cons rfl (flts_cons rfl (flts_cons rfl (flts_cons rfl (flts_cons rfl (flts_cons rfl flts_nil))))))))))))))) (flts_cons rfl flts_nil))) rfl)) fun r51 _ h=>
 mAsk 9 h beq_t beq_f (fun h=>
 mAsk 2 h id fls (fun h=>
 mFin 5 h) fun h=>
 mFin 7 h) fun h=>
 mFin 8 h) fun _ h=>
 mFin 4 h) fun _ h=>
 mFin 11 h
end drosslaw51_AggregateExtremes
end Go.Own
