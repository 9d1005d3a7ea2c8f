/- What the functions that the law reaches answer. No conditions. -/
import Derived.Test.YtbemcminbfhakaaDoorBase4
import Derived.Test.YtbemcminbfhakaaDoorOwn18
import Derived.Test.YtbemcminbfhakaaDoorBase1
import Derived.Test.YtbemcminbfhakaaDoorOwn24
set_option linter.all false
namespace Go.Own
open Go.Proofs D
set_option maxRecDepth 100000
set_option maxHeartbeats 4000000
namespace drossref02_Sub
end drossref02_Sub
end Go.Own
namespace Go.Own
open Go.Proofs D
set_option maxRecDepth 100000
set_option maxHeartbeats 4000000
namespace drossref02_Full
noncomputable def B:Code:=(Tryd.f54.body).getD .skip
def W:List Nat:=[0,2,3,4,11]
def res (r:Int):D×List D:=(.lit (.int .u32 r),[])
def C (x0 r:Int):Prop:=Ret env 54 [.lit (.int .i64 x0)] (res r).1 (res r).2
def L1 (x0 z0 z1:Int) (φ:Int→Prop):Prop:=Pt env 54 W B [1,1,0,1,0] [(0,.lit (.int .i64 x0)),(3,.lit (.int .u32 z0)),(4,.lit (.int .i64 z1))] (Lv env 54 Tryd.f54 1 res φ)
theorem L1_step (x0 z0 z1:Int) (φ:Int→Prop) (h :
 (if z1<x0 then
 (if z1<32 then
 0≤z1 ∧
 drossref02_Full.L1 x0 ((bOr .u32 z0 (shlw .u32 1 z1))) ((IntKind.wrap .i64 (z1+1))) φ
 else
 φ z0)
 else
 φ z0)):L1 x0 z0 z1 φ:=
 mIn <|
 mAsk 4 h dT dF (fun h=>
 mAsk 2 h dT dF (fun h=>
 h.elim fun h1 h=>
 mBi 7 (bin_shl (t:=28) (q:=.u32) (q':=.i64) (i1:=1) h1) <|
 mFin 8 h) fun h=>
 mRet 8 h) fun h=>
 mRet 11 h
theorem enter (x0:Int) (φ:Int→Prop) (h :
 drossref02_Full.L1 x0 0 0 φ):∃ r,φ r∧C x0 r:=
 mEnt (fd:=Tryd.f54) (body:=B) (V:=W) (res:=res) <|
 mFin 9 h
end drossref02_Full
end Go.Own
namespace Go.Own
open Go.Proofs D
set_option maxRecDepth 100000
set_option maxHeartbeats 4000000
namespace closure_Valid
noncomputable def B:Code:=(Tryd.f38.body).getD .skip
def W:List Nat:=[0,1,4,6,12,15,16,17,18,19,29]
def res (r:Int):D×List D:=(.lit (.int .i64 r),[])
def C (x0:Int) (x1:List api_FD) (r:Int):Prop:=Ret env 38 [.lit (.int .i64 x0),.sl (x1.map enc_api_FD)] (res r).1 (res r).2
def L1 (x0:Int) (x1:List api_FD) (z0:Int) (φ:Int→Prop):Prop:=Pt env 38 W B [1,1,1,0,1,0] [(0,.lit (.int .i64 x0)),(1,.sl (x1.map enc_api_FD)),(16,.sl (x1.map enc_api_FD)),(17,.lit (.int .i64 ((x1.length:Int)))),(18,.lit (.int .i64 z0))] (Lv env 38 Tryd.f38 2 res φ)
theorem L1_step (x0:Int) (x1:List api_FD) (z0:Int) (φ:Int→Prop) (h :
 (if z0<(x1.length:Int) then
 ∃ a1,lget x1 z0=some a1 ∧
 0≤x0 ∧
 (if (shrw .u32 (bOr .u32 a1.Lhs a1.Rhs) x0)=0 then
 closure_Valid.L1 x0 x1 ((IntKind.wrap .i64 (z0+1))) φ
 else
 φ 1)
 else
 φ 0)):L1 x0 x1 z0 φ:=
 mIn <|
 mAsk 2 h dT dF (fun h=>
 mIx 4 enc_api_FD h fun a1 h2 h=>
 h.elim fun h3 h=>
 mBi 11 (bin_shr (t:=28) (q:=.u32) (q':=.i64) (i1:=(bOr .u32 a1.Lhs a1.Rhs)) h3) <|
 mAskN 0 h bne_t bne_f (fun h=>
 mRet 5 h) fun h=>
 mFin 7 h) fun h=>
 mRet 6 h
theorem enter (x0:Int) (x1:List api_FD) (φ:Int→Prop) (h :
 (if x0<0 then
 φ 7
 else
 (if 16<x0 then
 φ 7
 else
 (if 64<(x1.length:Int) then
 φ 3
 else
 closure_Valid.L1 x0 x1 0 φ)))):∃ r,φ r∧C x0 x1 r:=
 mEnt (fd:=Tryd.f38) (body:=B) (V:=W) (res:=res) <|
 mAsk 5 h dT dF (fun h=>
 mRet 9 h) fun h=>
 mAsk 2 h dT dF (fun h=>
 mRet 6 h) fun h=>
 mLen 6 enc_api_FD x1 <|
 mAsk 0 h dT dF (fun h=>
 mRet 5 h) fun h=>
 mLen 5 enc_api_FD x1 <|
 mFin 2 h
end closure_Valid
end Go.Own
namespace Go.Own
open Go.Proofs D
set_option maxRecDepth 100000
set_option maxHeartbeats 4000000
namespace drossref09_Valid
end drossref09_Valid
end Go.Own
namespace Go.Own
open Go.Proofs D
set_option maxRecDepth 100000
set_option maxHeartbeats 4000000
namespace drossref02_Has
noncomputable def B:Code:=(Tryd.f48.body).getD .skip
def W:List Nat:=[0,1,4]
def res (r:Bool):D×List D:=(.lit (.bool r),[])
def C (x0 x1:Int) (r:Bool):Prop:=Ret env 48 [.lit (.int .u32 x0),.lit (.int .i64 x1)] (res r).1 (res r).2
theorem enter (x0 x1:Int) (φ:Bool→Prop) (h :
 (if 0≤x1 then
 (if x1<32 then
 0≤x1 ∧
 φ (((bAnd .u32 (shrw .u32 x0 x1) 1) == 1))
 else
 φ false)
 else
 φ false)):∃ r,φ r∧C x0 x1 r:=
 mEnt (fd:=Tryd.f48) (body:=B) (V:=W) (res:=res) <|
 mAsk 5 h dT dF (fun h=>
 mAsk 2 h dT dF (fun h=>
 h.elim fun h1 h=>
 mBi 4 (bin_shr (t:=28) (q:=.u32) (q':=.i64) (i1:=x0) h1) <|
 mRet 5 h) fun h=>
 mRet 10 h) fun h=>
 mRet 13 h
end drossref02_Has
end Go.Own
namespace Go.Own
open Go.Proofs D
set_option maxRecDepth 100000
set_option maxHeartbeats 4000000
namespace closure_Close
noncomputable def B:Code:=(Tryd.f42.body).getD .skip
def W:List Nat:=[0,1,4,5,7,9,10,11,12,19,27]
def res (r:Int):D×List D:=(.lit (.int .u32 r),[])
def C (x0:List api_FD) (x1 r:Int):Prop:=Ret env 42 [.sl (x0.map enc_api_FD),.lit (.int .u32 x1)] (res r).1 (res r).2
def L1 (x0:List api_FD) (x1:Int) (φ:Int→Prop):Prop:=Pt env 42 W B [1,0] [(0,.sl (x0.map enc_api_FD)),(1,.lit (.int .u32 x1))] (Lv env 42 Tryd.f42 2 res φ)
def L2 (x0:List api_FD) (x1 z0 z1:Int) (φ:Int→Prop):Prop:=Pt env 42 W B [1,0,0,0,1,0,1,0] [(0,.sl (x0.map enc_api_FD)),(1,.lit (.int .u32 x1)),(5,.lit (.int .u32 z0)),(9,.sl (x0.map enc_api_FD)),(10,.lit (.int .i64 ((x0.length:Int)))),(11,.lit (.int .i64 z1))] (Lv env 42 Tryd.f42 2 res φ)
def L3 (x0:List api_FD) (z0 z1 z2:Int) (φ:Int→Prop):Prop:=Pt env 42 W B [1,0,0,0,1,0,1,0,0,1,1,1] [(0,.sl (x0.map enc_api_FD)),(1,.lit (.int .u32 z0)),(5,.lit (.int .u32 z1)),(9,.sl (x0.map enc_api_FD)),(10,.lit (.int .i64 ((x0.length:Int)))),(11,.lit (.int .i64 z2))] (Lv env 42 Tryd.f42 2 res φ)
theorem L1_step (x0:List api_FD) (x1:Int) (φ:Int→Prop) (h :
 closure_Close.L2 x0 x1 x1 0 φ):L1 x0 x1 φ:=
 mIn <|
 mLen 7 enc_api_FD x0 <|
 mFin 2 h
theorem L2_step (x0:List api_FD) (x1 z0 z1:Int) (φ:Int→Prop) (h :
 (if z1<(x0.length:Int) then
 ∃ a1,lget x0 z1=some a1 ∧
 (if (bAndNot .u32 a1.Lhs x1)=0 then
 closure_Close.L3 x0 ((bOr .u32 x1 a1.Rhs)) z0 z1 φ
 else
 closure_Close.L3 x0 x1 z0 z1 φ)
 else
 (if x1=z0 then
 φ x1
 else
 closure_Close.L1 x0 x1 φ))):L2 x0 x1 z0 z1 φ:=
 mIn <|
 mAsk 2 h dT dF (fun h=>
 mIx 4 enc_api_FD h fun a1 h2 h=>
 mAsk 9 h beq_t beq_f (fun h=>
 mFin 9 h) fun h=>
 mFin 3 h) fun h=>
 mAsk 6 h beq_t beq_f (fun h=>
 mRet 6 h) fun h=>
 mFin 3 h
theorem L3_step (x0:List api_FD) (z0 z1 z2:Int) (φ:Int→Prop) (h :
 closure_Close.L2 x0 z0 z1 ((IntKind.wrap .i64 (z2+1))) φ):L3 x0 z0 z1 z2 φ:=
 mIn <|
 mFin 4 h
theorem enter (x0:List api_FD) (x1:Int) (φ:Int→Prop) (h :
 closure_Close.L1 x0 x1 φ):∃ r,φ r∧C x0 x1 r:=
 mEnt (fd:=Tryd.f42) (body:=B) (V:=W) (res:=res) <|
 mFin 3 h
end closure_Close
end Go.Own
namespace Go.Own
open Go.Proofs D
set_option maxRecDepth 100000
set_option maxHeartbeats 4000000
namespace drossref09_Close
end drossref09_Close
end Go.Own
namespace Go.Own
open Go.Proofs D
set_option maxRecDepth 100000
set_option maxHeartbeats 4000000
namespace drossref01_Valid
end drossref01_Valid
end Go.Own
namespace Go.Own
open Go.Proofs D
set_option maxRecDepth 100000
set_option maxHeartbeats 4000000
namespace drossref01_Valids
end drossref01_Valids
end Go.Own
namespace Go.Own
open Go.Proofs D
set_option maxRecDepth 100000
set_option maxHeartbeats 4000000
namespace drossref03_letter
end drossref03_letter
end Go.Own
namespace Go.Own
open Go.Proofs D
set_option maxRecDepth 100000
set_option maxHeartbeats 4000000
namespace drossref03_Name
end drossref03_Name
end Go.Own
namespace Go.Own
open Go.Proofs D
set_option maxRecDepth 100000
set_option maxHeartbeats 4000000
namespace drossref03_Attr
end drossref03_Attr
end Go.Own
namespace Go.Own
open Go.Proofs D
set_option maxRecDepth 100000
set_option maxHeartbeats 4000000
namespace drossref03_Names
end drossref03_Names
end Go.Own
namespace Go.Own
open Go.Proofs D
set_option maxRecDepth 100000
set_option maxHeartbeats 4000000
namespace drossref03_Valid
def res (r:Int):D×List D:=(.lit (.int .i64 r),[])
def C (x0:api_Table) (r:Int):Prop:=Ret env 37 [.agg [.lit (.string x0.Name),.sl (x0.Attrs.map eS),.sl (x0.Rows.map enc_api_Row_2)]] (res r).1 (res r).2
end drossref03_Valid
end Go.Own
namespace Go.Own
open Go.Proofs D
set_option maxRecDepth 100000
set_option maxHeartbeats 4000000
namespace drossref01_sign
noncomputable def B:Code:=(Tryd.f89.body).getD .skip
def W:List Nat:=[0,1,4,7,10]
def res (r:Int):D×List D:=(.lit (.int .i64 r),[])
def C (x0 x1 r:Int):Prop:=Ret env 89 [.lit (.int .i64 x0),.lit (.int .i64 x1)] (res r).1 (res r).2
theorem enter (x0 x1:Int) (φ:Int→Prop) (h :
 (if x0<x1 then
 φ ((-1))
 else
 (if x1<x0 then
 φ 1
 else
 φ 0))):∃ r,φ r∧C x0 x1 r:=
 mEnt (fd:=Tryd.f89) (body:=B) (V:=W) (res:=res) <|
 mAsk 6 h dT dF (fun h=>
 mRet 5 h) fun h=>
 mAsk 6 h dT dF (fun h=>
 mRet 5 h) fun h=>
 mRet 6 h
end drossref01_sign
end Go.Own
namespace Go.Own
open Go.Proofs D
set_option maxRecDepth 100000
set_option maxHeartbeats 4000000
namespace drossref01_strings
noncomputable def B:Code:=(Tryd.f102.body).getD .skip
def W:List Nat:=[0,1,4,5,15,24]
def res (r:Int):D×List D:=(.lit (.int .i64 r),[])
def C (x0 x1:ByteArray) (r:Int):Prop:=Ret env 102 [.lit (.string x0),.lit (.string x1)] (res r).1 (res r).2
def L1 (x0 x1:ByteArray) (z0:Int) (φ:Int→Prop):Prop:=Pt env 102 W B [1,0,1,0] [(0,.lit (.string x0)),(1,.lit (.string x1)),(5,.lit (.int .i64 z0))] (Lv env 102 Tryd.f102 2 res φ)
def L2 (x0 x1:ByteArray) (φ:Int→Prop):Prop:=Pt env 102 W B [1,1,0] [(0,.lit (.string x0)),(1,.lit (.string x1))] (Lv env 102 Tryd.f102 2 res φ)
theorem L1_step (x0 x1:ByteArray) (z0:Int) (φ:Int→Prop) (h :
 (if z0<(bsize x0) then
 (if z0<(bsize x1) then
 ∃ b1,((0:Int)≤z0∧x0[(z0).toNat]? = some b1) ∧
 ∃ b4,((0:Int)≤z0∧x1[(z0).toNat]? = some b4) ∧
 (if (u8i b1)=(u8i b4) then
 drossref01_strings.L1 x0 x1 ((IntKind.wrap .i64 (z0+1))) φ
 else
 ∃ b7,((0:Int)≤z0∧x0[(z0).toNat]? = some b7) ∧
 ∃ b10,((0:Int)≤z0∧x1[(z0).toNat]? = some b10) ∧
 ∃ r13:Int,drossref01_sign.C ((IntKind.wrap .i64 (u8i b7))) ((IntKind.wrap .i64 (u8i b10))) r13 ∧
 φ r13)
 else
 drossref01_strings.L2 x0 x1 φ)
 else
 drossref01_strings.L2 x0 x1 φ)):L1 x0 x1 z0 φ:=
 mIn <|
 mAsk 5 h dT dF (fun h=>
 mAsk 4 h dT dF (fun h=>
 mSt 7 h fun b1 h=>
 mSt 2 h fun b4 h=>
 mAskN 0 h bne_t bne_f (fun h=>
 mSt 5 h fun b7 h=>
 mSt 3 h fun b10 h=>
 mCal 1 h (fun _ h=>h) fun r13 _ h=>
 mRet 2 h) fun h=>
 mFin 8 h) fun h=>
 mFin 4 h) fun h=>
 mFin 9 h
theorem L2_step (x0 x1:ByteArray) (φ:Int→Prop) (h :
 ∃ r14:Int,drossref01_sign.C ((bsize x0)) ((bsize x1)) r14 ∧
 φ r14):L2 x0 x1 φ:=
 mIn <|
 mCal 5 h (fun _ h=>h) fun r14 _ h=>
 mRet 2 h
theorem enter (x0 x1:ByteArray) (φ:Int→Prop) (h :
 drossref01_strings.L1 x0 x1 0 φ):∃ r,φ r∧C x0 x1 r:=
 mEnt (fd:=Tryd.f102) (body:=B) (V:=W) (res:=res) <|
 mFin 6 h
end drossref01_strings
end Go.Own
namespace Go.Own
open Go.Proofs D
set_option maxRecDepth 100000
set_option maxHeartbeats 4000000
namespace drossref01_Compare
noncomputable def B:Code:=(Tryd.f88.body).getD .skip
def W:List Nat:=[0,1,2,3,4,5,6,13,21]
def res (r:Int):D×List D:=(.lit (.int .i64 r),[])
def C (x0 x1:api_Value) (r:Int):Prop:=Ret env 88 [.agg [.lit (.int .i64 x0.Kind),.lit (.int .i64 x0.Num),.lit (.string x0.Str)],.agg [.lit (.int .i64 x1.Kind),.lit (.int .i64 x1.Num),.lit (.string x1.Str)]] (res r).1 (res r).2
theorem enter (x0 x1:api_Value) (φ:Int→Prop) (h :
 ∃ r1:Int,drossref01_sign.C x0.Kind x1.Kind r1 ∧
 (if r1=0 then
 ∃ r2:Int,drossref01_sign.C x0.Num x1.Num r2 ∧
 (if r2=0 then
 ∃ r3:Int,drossref01_strings.C x0.Str x1.Str r3 ∧
 φ r3
 else
 φ r2)
 else
 φ r1)):∃ r,φ r∧C x0 x1 r:=
 mEnt (fd:=Tryd.f88) (body:=B) (V:=W) (res:=res) <|
 mCal 10 h (fun _ h=>h) fun r1 _ h=>
 mAskN 4 h bne_t bne_f (fun h=>
 mRet 6 h) fun h=>
 mCal 8 h (fun _ h=>h) fun r2 _ h=>
 mAskN 4 h bne_t bne_f (fun h=>
 mRet 6 h) fun h=>
 mCal 8 h (fun _ h=>h) fun r3 _ h=>
 mRet 2 h
end drossref01_Compare
end Go.Own
namespace Go.Own
open Go.Proofs D
set_option maxRecDepth 100000
set_option maxHeartbeats 4000000
namespace drossref01_Lists
noncomputable def B:Code:=(Tryd.f81.body).getD .skip
def W:List Nat:=[0,1,4,5,6,16,29]
def res (r:Int):D×List D:=(.lit (.int .i64 r),[])
def C (x0 x1:List api_Value) (r:Int):Prop:=Ret env 81 [.sl (x0.map enc_api_Value),.sl (x1.map enc_api_Value)] (res r).1 (res r).2
def L1 (x0 x1:List api_Value) (z0:Int) (φ:Int→Prop):Prop:=Pt env 81 W B [1,0,1,0] [(0,.sl (x0.map enc_api_Value)),(1,.sl (x1.map enc_api_Value)),(5,.lit (.int .i64 z0))] (Lv env 81 Tryd.f81 2 res φ)
def L2 (x0 x1:List api_Value) (φ:Int→Prop):Prop:=Pt env 81 W B [1,1,0] [(0,.sl (x0.map enc_api_Value)),(1,.sl (x1.map enc_api_Value))] (Lv env 81 Tryd.f81 2 res φ)
theorem L1_step (x0 x1:List api_Value) (z0:Int) (φ:Int→Prop) (h :
 (if z0<(x0.length:Int) then
 (if z0<(x1.length:Int) then
 ∃ a1,lget x0 z0=some a1 ∧
 ∃ a3,lget x1 z0=some a3 ∧
 ∃ r5:Int,drossref01_Compare.C a1 a3 r5 ∧
 (if r5=0 then
 drossref01_Lists.L1 x0 x1 ((IntKind.wrap .i64 (z0+1))) φ
 else
 φ r5)
 else
 drossref01_Lists.L2 x0 x1 φ)
 else
 drossref01_Lists.L2 x0 x1 φ)):L1 x0 x1 z0 φ:=
 mIn <|
 mLen 4 enc_api_Value x0 <|
 mAsk 0 h dT dF (fun h=>
 mLen 3 enc_api_Value x1 <|
 mAsk 0 h dT dF (fun h=>
 mIx 7 enc_api_Value h fun a1 h2 h=>
 mIx 3 enc_api_Value h fun a3 h4 h=>
 mCal 1 h (fun _ h=>h) fun r5 _ h=>
 mAskN 4 h bne_t bne_f (fun h=>
 mRet 6 h) fun h=>
 mFin 8 h) fun h=>
 mFin 4 h) fun h=>
 mFin 9 h
theorem L2_step (x0 x1:List api_Value) (φ:Int→Prop) (h :
 ∃ r6:Int,drossref01_sign.C ((x0.length:Int)) ((x1.length:Int)) r6 ∧
 φ r6):L2 x0 x1 φ:=
 mIn <|
 mLen 2 enc_api_Value x0 <|
 mLen 1 enc_api_Value x1 <|
 mCal 0 h (fun _ h=>h) fun r6 _ h=>
 mRet 2 h
theorem enter (x0 x1:List api_Value) (φ:Int→Prop) (h :
 drossref01_Lists.L1 x0 x1 0 φ):∃ r,φ r∧C x0 x1 r:=
 mEnt (fd:=Tryd.f81) (body:=B) (V:=W) (res:=res) <|
 mFin 6 h
end drossref01_Lists
end Go.Own
namespace Go.Own
open Go.Proofs D
set_option maxRecDepth 100000
set_option maxHeartbeats 4000000
namespace drossref01_Same
noncomputable def B:Code:=(Tryd.f67.body).getD .skip
def W:List Nat:=[0,1,4]
def res (r:Bool):D×List D:=(.lit (.bool r),[])
def C (x0 x1:List api_Value) (r:Bool):Prop:=Ret env 67 [.sl (x0.map enc_api_Value),.sl (x1.map enc_api_Value)] (res r).1 (res r).2
theorem enter (x0 x1:List api_Value) (φ:Bool→Prop) (h :
 ∃ r1:Int,drossref01_Lists.C x0 x1 r1 ∧
 φ ((r1 == 0))):∃ r,φ r∧C x0 x1 r:=
 mEnt (fd:=Tryd.f67) (body:=B) (V:=W) (res:=res) <|
 mCal 6 h (fun _ h=>h) fun r1 _ h=>
 mRet 3 h
end drossref01_Same
end Go.Own
namespace Go.Own
open Go.Proofs D
set_option maxRecDepth 100000
set_option maxHeartbeats 4000000
namespace drossref03_Values
noncomputable def B:Code:=(Tryd.f69.body).getD .skip
def W:List Nat:=[0,1,2,4,5,6,11,16]
def res (r:List api_Value):D×List D:=(.own (r.map enc_api_Value),[])
def C (x0:api_Row) (x1:Int) (r:List api_Value):Prop:=Ret env 69 [.agg [.lit (.int .i64 x0.ID),.sl (x0.Values.map enc_api_Value)],.lit (.int .u32 x1)] (res r).1 (res r).2
def L1 (x0:api_Row) (x1:Int) (z0:List api_Value) (z1:Int) (φ:List api_Value→Prop):Prop:=Pt env 69 W B [1,1,0,1,0] [(0,.agg [.lit (.int .i64 x0.ID),.sl (x0.Values.map enc_api_Value)]),(1,.lit (.int .u32 x1)),(2,.box [.lit (.int .i64 x0.ID),.sl (x0.Values.map enc_api_Value)]),(5,.own (z0.map enc_api_Value)),(6,.lit (.int .i64 z1))] (Lv env 69 Tryd.f69 2 res φ)
def L2 (x0:api_Row) (x1:Int) (z0:List api_Value) (z1:Int) (φ:List api_Value→Prop):Prop:=Pt env 69 W B [1,1,0,1,0,0,1,1] [(0,.agg [.lit (.int .i64 x0.ID),.sl (x0.Values.map enc_api_Value)]),(1,.lit (.int .u32 x1)),(2,.box [.lit (.int .i64 x0.ID),.sl (x0.Values.map enc_api_Value)]),(5,.own (z0.map enc_api_Value)),(6,.lit (.int .i64 z1))] (Lv env 69 Tryd.f69 2 res φ)
theorem L1_step (x0:api_Row) (x1:Int) (z0:List api_Value) (z1:Int) (φ:List api_Value→Prop) (h :
 (if z1<(x0.Values.length:Int) then
 ∃ r1:Bool,drossref02_Has.C x1 z1 r1 ∧
 (if r1=true then
 ∃ a2,lget x0.Values z1=some a2 ∧
 (z0.length+1)*32≤140737488355328 ∧
 drossref03_Values.L2 x0 x1 ((z0++[a2])) z1 φ
 else
 drossref03_Values.L2 x0 x1 z0 z1 φ)
 else
 φ z0)):L1 x0 x1 z0 z1 φ:=
 mIn <|
 mLen 5 enc_api_Value x0.Values <|
 mAsk 0 h dT dF (fun h=>
 mCalB 6 h (fun _ h=>h) (fun _ h=>
 mIx 7 enc_api_Value h fun a2 h3 h=>
 mApp 2 enc_api_Value z0 ([a2]) h fun h=>
 mFin 2 h) fun _ h=>
 mFin 3 h) fun h=>
 mRet 7 h
theorem L2_step (x0:api_Row) (x1:Int) (z0:List api_Value) (z1:Int) (φ:List api_Value→Prop) (h :
 drossref03_Values.L1 x0 x1 z0 ((IntKind.wrap .i64 (z1+1))) φ):L2 x0 x1 z0 z1 φ:=
 mIn <|
 mFin 5 h
theorem enter (x0:api_Row) (x1:Int) (φ:List api_Value→Prop) (h :
 drossref03_Values.L1 x0 x1 ([]) 0 φ):∃ r,φ r∧C x0 x1 r:=
 mEnt (fd:=Tryd.f69) (body:=B) (V:=W) (res:=res) <|
 mFin 10 h
end drossref03_Values
end Go.Own
namespace Go.Own
open Go.Proofs D
set_option maxRecDepth 100000
set_option maxHeartbeats 4000000
namespace drossref03_Agree
noncomputable def B:Code:=(Tryd.f52.body).getD .skip
def W:List Nat:=[0,1,2,3,4,6]
def res (r:Bool):D×List D:=(.lit (.bool r),[])
def C (x0 x1:api_Row) (x2:Int) (r:Bool):Prop:=Ret env 52 [.agg [.lit (.int .i64 x0.ID),.sl (x0.Values.map enc_api_Value)],.agg [.lit (.int .i64 x1.ID),.sl (x1.Values.map enc_api_Value)],.lit (.int .u32 x2)] (res r).1 (res r).2
theorem enter (x0 x1:api_Row) (x2:Int) (φ:Bool→Prop) (h :
 ∃ r1:List api_Value,drossref03_Values.C x0 x2 r1 ∧
 ∃ r2:List api_Value,drossref03_Values.C x1 x2 r2 ∧
 ∃ r3:Bool,drossref01_Same.C r1 r2 r3 ∧
 φ r3):∃ r,φ r∧C x0 x1 x2 r:=
 mEnt (fd:=Tryd.f52) (body:=B) (V:=W) (res:=res) <|
 mLo 8 h (fun _ h=>h) (hf:=(fun _=>loF_flat (flat_ow (e:=enc_api_Value) (fun _=>rfl)))) fun r1 _ h=>
 mCal 2 h (fun _ h=>h) (hf:=(fun _=>clF_flat (flat_ow (e:=enc_api_Value) (fun _=>rfl)) rfl)) fun r2 _ h=>
 mCal 0 h (fun _ h=>h) (hr:=by exact (pr_snap (snap_ow (s:=9) (ps:=[]) (l:=r1) (e:=enc_api_Value) (e':=enc_api_Value) (fun _=>rfl) (by kernel_rfl)) (pr_snap (snap_ow (s:=12) (ps:=[]) (l:=r2) (e:=enc_api_Value) (e':=enc_api_Value) (fun _=>rfl) (by kernel_rfl)) pr_nil))) fun r3 _ h=>
 mRet 2 h
end drossref03_Agree
end Go.Own
namespace Go.Own
open Go.Proofs D
set_option maxRecDepth 100000
set_option maxHeartbeats 4000000
namespace drossref09_Implies
end drossref09_Implies
end Go.Own
namespace Go.Own
open Go.Proofs D
set_option maxRecDepth 100000
set_option maxHeartbeats 4000000
namespace drossref03_EqualRows
end drossref03_EqualRows
end Go.Own
namespace Go.Own
open Go.Proofs D
set_option maxRecDepth 100000
set_option maxHeartbeats 4000000
namespace drossref03_Strings
end drossref03_Strings
end Go.Own
namespace Go.Own
open Go.Proofs D
set_option maxRecDepth 100000
set_option maxHeartbeats 4000000
namespace drossref03_Equal
def res (r:Bool):D×List D:=(.lit (.bool r),[])
def C (x0 x1:api_Table) (r:Bool):Prop:=Ret env 17 [.agg [.lit (.string x0.Name),.sl (x0.Attrs.map eS),.sl (x0.Rows.map enc_api_Row_2)],.agg [.lit (.string x1.Name),.sl (x1.Attrs.map eS),.sl (x1.Rows.map enc_api_Row_2)]] (res r).1 (res r).2
end drossref03_Equal
end Go.Own
namespace Go.Own
open Go.Proofs D
set_option maxRecDepth 100000
set_option maxHeartbeats 4000000
namespace drossref08_Satisfies
noncomputable def B:Code:=(Tryd.f19.body).getD .skip
def W:List Nat:=[0,1,2,3,4,5,6,11,16,47]
def res (r:Bool):D×List D:=(.lit (.bool r),[])
def C (x0:api_Table) (x1:api_FD) (r:Bool):Prop:=Ret env 19 [.agg [.lit (.string x0.Name),.sl (x0.Attrs.map eS),.sl (x0.Rows.map enc_api_Row_2)],.agg [.lit (.int .u32 x1.Lhs),.lit (.int .u32 x1.Rhs)]] (res r).1 (res r).2
def L1 (x0:api_Table) (x1:api_FD) (z0:Int) (φ:Bool→Prop):Prop:=Pt env 19 W B [1,0,1,0] [(0,.agg [.lit (.string x0.Name),.sl (x0.Attrs.map eS),.sl (x0.Rows.map enc_api_Row_2)]),(1,.agg [.lit (.int .u32 x1.Lhs),.lit (.int .u32 x1.Rhs)]),(2,.box [.lit (.string x0.Name),.sl (x0.Attrs.map eS),.sl (x0.Rows.map enc_api_Row_2)]),(3,.box [.lit (.int .u32 x1.Lhs),.lit (.int .u32 x1.Rhs)]),(5,.lit (.int .i64 z0))] (Lv env 19 Tryd.f19 2 res φ)
def L2 (x0:api_Table) (x1:api_FD) (z0 z1:Int) (φ:Bool→Prop):Prop:=Pt env 19 W B [1,0,1,0,0,1,0,0,1,0] [(0,.agg [.lit (.string x0.Name),.sl (x0.Attrs.map eS),.sl (x0.Rows.map enc_api_Row_2)]),(1,.agg [.lit (.int .u32 x1.Lhs),.lit (.int .u32 x1.Rhs)]),(2,.box [.lit (.string x0.Name),.sl (x0.Attrs.map eS),.sl (x0.Rows.map enc_api_Row_2)]),(3,.box [.lit (.int .u32 x1.Lhs),.lit (.int .u32 x1.Rhs)]),(5,.lit (.int .i64 z0)),(6,.lit (.int .i64 z1))] (Lv env 19 Tryd.f19 2 res φ)
def L3 (x0:api_Table) (x1:api_FD) (z0 z1:Int) (φ:Bool→Prop):Prop:=Pt env 19 W B [1,0,1,0,0,1,0,0,1,0,0,1,1] [(0,.agg [.lit (.string x0.Name),.sl (x0.Attrs.map eS),.sl (x0.Rows.map enc_api_Row_2)]),(1,.agg [.lit (.int .u32 x1.Lhs),.lit (.int .u32 x1.Rhs)]),(2,.box [.lit (.string x0.Name),.sl (x0.Attrs.map eS),.sl (x0.Rows.map enc_api_Row_2)]),(3,.box [.lit (.int .u32 x1.Lhs),.lit (.int .u32 x1.Rhs)]),(5,.lit (.int .i64 z0)),(6,.lit (.int .i64 z1))] (Lv env 19 Tryd.f19 2 res φ)
theorem L1_step (x0:api_Table) (x1:api_FD) (z0:Int) (φ:Bool→Prop) (h :
 (if z0<(x0.Rows.length:Int) then
 drossref08_Satisfies.L2 x0 x1 z0 0 φ
 else
 φ true)):L1 x0 x1 z0 φ:=
 mIn <|
 mLen 5 enc_api_Row_2 x0.Rows <|
 mAsk 0 h dT dF (fun h=>
 mFin 6 h) fun h=>
 mRet 6 h
theorem L2_step (x0:api_Table) (x1:api_FD) (z0 z1:Int) (φ:Bool→Prop) (h :
 (if z1<z0 then
 ∃ a1,lget x0.Rows z0=some a1 ∧
 ∃ a3,lget x0.Rows z1=some a3 ∧
 ∃ r5:Bool,drossref03_Agree.C a1 a3 x1.Lhs r5 ∧
 (if r5=true then
 ∃ r6:Bool,drossref03_Agree.C a1 a3 x1.Rhs r6 ∧
 (if r6=true then
 drossref08_Satisfies.L3 x0 x1 z0 z1 φ
 else
 φ false)
 else
 drossref08_Satisfies.L3 x0 x1 z0 z1 φ)
 else
 drossref08_Satisfies.L1 x0 x1 ((IntKind.wrap .i64 (z0+1))) φ)):L2 x0 x1 z0 z1 φ:=
 mIn <|
 mAsk 4 h dT dF (fun h=>
 mIx 7 enc_api_Row_2 h fun a1 h2 h=>
 mIx 4 enc_api_Row_2 h fun a3 h4 h=>
 mCalB 3 h (fun _ h=>h) (fun _ h=>
 mIxf 4 enc_api_Row_2 h2 <|
 mIxf 4 enc_api_Row_2 h4 <|
 mCalB 3 h (fun _ h=>h) (fun _ h=>
 mFin 5 h) fun _ h=>
 mRet 7 h) fun _ h=>
 mFin 19 h) fun h=>
 mFin 8 h
theorem L3_step (x0:api_Table) (x1:api_FD) (z0 z1:Int) (φ:Bool→Prop) (h :
 drossref08_Satisfies.L2 x0 x1 z0 ((IntKind.wrap .i64 (z1+1))) φ):L3 x0 x1 z0 z1 φ:=
 mIn <|
 mFin 5 h
theorem enter (x0:api_Table) (x1:api_FD) (φ:Bool→Prop) (h :
 drossref08_Satisfies.L1 x0 x1 0 φ):∃ r,φ r∧C x0 x1 r:=
 mEnt (fd:=Tryd.f19) (body:=B) (V:=W) (res:=res) <|
 mFin 8 h
end drossref08_Satisfies
end Go.Own
namespace Go.Own
open Go.Proofs D
set_option maxRecDepth 100000
set_option maxHeartbeats 4000000
namespace closure_Implies
noncomputable def B:Code:=(Tryd.f40.body).getD .skip
def W:List Nat:=[0,1,3,4]
def res (r:Bool):D×List D:=(.lit (.bool r),[])
def C (x0:List api_FD) (x1:api_FD) (r:Bool):Prop:=Ret env 40 [.sl (x0.map enc_api_FD),.agg [.lit (.int .u32 x1.Lhs),.lit (.int .u32 x1.Rhs)]] (res r).1 (res r).2
theorem enter (x0:List api_FD) (x1:api_FD) (φ:Bool→Prop) (h :
 ∃ r1:Int,closure_Close.C x0 x1.Lhs r1 ∧
 φ (((bAndNot .u32 x1.Rhs r1) == 0))):∃ r,φ r∧C x0 x1 r:=
 mEnt (fd:=Tryd.f40) (body:=B) (V:=W) (res:=res) <|
 mLo 10 h (fun _ h=>h) fun r1 _ h=>
 mRet 4 h
end closure_Implies
end Go.Own
namespace Go.Own
open Go.Proofs D
set_option maxRecDepth 100000
set_option maxHeartbeats 4000000
namespace refute_build
noncomputable def B:Code:=(Tryd.f41.body).getD .skip
def W:List Nat:=[0,1,4,5,6,7,8,9,10,12,13,14,26,27,28,29,36,37,38]
def res (r:api_Table):D×List D:=(.agg [.lit (.string r.Name),.own (r.Attrs.map eS),.own (r.Rows.map enc_api_Row)],[])
def C (x0:Int) (x1:List Int) (r:api_Table):Prop:=Ret env 41 [.lit (.int .i64 x0),.sl (x1.map (eI .u32))] (res r).1 (res r).2
def L1 (x0:Int) (x1:List Int) (z0:List ByteArray) (z1:Int) (φ:api_Table→Prop):Prop:=Pt env 41 W B [1,1,0,1,0] [(0,.lit (.int .i64 x0)),(1,.sl (x1.map (eI .u32))),(4,.box [.lit (.string ((⟨#[]⟩:ByteArray))),.own [],.own []]),(5,.box [.lit (.string ((⟨#[116]⟩:ByteArray))),.own (z0.map eS),.own []]),(12,.lit (.int .i64 x0)),(13,.lit (.int .i64 z1))] (Lv env 41 Tryd.f41 2 res φ)
def L2 (x0:Int) (x1:List Int) (z0:List ByteArray) (z1:List api_Row) (z2:Int) (φ:api_Table→Prop):Prop:=Pt env 41 W B [1,1,1,0,1,0] [(0,.lit (.int .i64 x0)),(1,.sl (x1.map (eI .u32))),(4,.box [.lit (.string ((⟨#[]⟩:ByteArray))),.own [],.own []]),(5,.box [.lit (.string ((⟨#[116]⟩:ByteArray))),.own (z0.map eS),.own (z1.map enc_api_Row)]),(26,.sl (x1.map (eI .u32))),(27,.lit (.int .i64 ((x1.length:Int)))),(28,.lit (.int .i64 z2))] (Lv env 41 Tryd.f41 2 res φ)
def L3 (x0:Int) (x1:List Int) (z0:List ByteArray) (z1:List api_Row) (a2 z2:Int) (z3:List api_Value) (z4 z5:Int) (φ:api_Table→Prop):Prop:=Pt env 41 W B [1,1,1,0,1,0,0,1,1,0,0,1,1,0,1,0] [(0,.lit (.int .i64 x0)),(1,.sl (x1.map (eI .u32))),(4,.box [.lit (.string ((⟨#[]⟩:ByteArray))),.own [],.own []]),(5,.box [.lit (.string ((⟨#[116]⟩:ByteArray))),.own (z0.map eS),.own (z1.map enc_api_Row)]),(8,.lit (.int .u32 a2)),(9,.box [.lit (.int .i64 z2),.own (z3.map enc_api_Value)]),(26,.sl (x1.map (eI .u32))),(27,.lit (.int .i64 ((x1.length:Int)))),(28,.lit (.int .i64 z4)),(36,.lit (.int .i64 x0)),(37,.lit (.int .i64 z5))] (Lv env 41 Tryd.f41 2 res φ)
theorem L1_step (x0:Int) (x1:List Int) (z0:List ByteArray) (z1:Int) (φ:api_Table→Prop) (h :
 (if z1<x0 then
 (z0.length+1)*16≤140737488355328 ∧
 refute_build.L1 x0 x1 ((z0++[(Utf8.encode (IntKind.wrap .i32 (IntKind.wrap .i64 (97+z1))))])) ((IntKind.wrap .i64 (z1+1))) φ
 else
 refute_build.L2 x0 x1 z0 ([]) 0 φ)):L1 x0 x1 z0 z1 φ:=
 mIn <|
 mAsk 2 h dT dF (fun h=>
 mApp 15 eS z0 ([(Utf8.encode (IntKind.wrap .i32 (IntKind.wrap .i64 (97+z1))))]) h fun h=>
 mFin 7 h) fun h=>
 mLen 5 (eI .u32) x1 <|
 mFin 2 h
theorem L2_step (x0:Int) (x1:List Int) (z0:List ByteArray) (z1:List api_Row) (z2:Int) (φ:api_Table→Prop) (h :
 (if z2<(x1.length:Int) then
 ∃ a2,lget x1 z2=some a2 ∧
 refute_build.L3 x0 x1 z0 z1 a2 ((IntKind.wrap .i64 (z2+1))) ([]) z2 0 φ
 else
 φ ((⟨(⟨#[116]⟩:ByteArray),z0,z1⟩:api_Table)))):L2 x0 x1 z0 z1 z2 φ:=
 mIn <|
 mAsk 2 h dT dF (fun h=>
 mIx 5 (eI .u32) h fun a2 h3 h=>
 mFin 15 h) fun h=>
 mRet 7 h
theorem L3_step (x0:Int) (x1:List Int) (z0:List ByteArray) (z1:List api_Row) (a2 z2:Int) (z3:List api_Value) (z4 z5:Int) (φ:api_Table→Prop) (h :
 (if z5<x0 then
 0≤z5 ∧
 (z3.length+1)*32≤140737488355328 ∧
 refute_build.L3 x0 x1 z0 z1 a2 z2 ((z3++[(⟨1,(IntKind.wrap .i64 (bAnd .u32 (shrw .u32 a2 z5) 1)),(⟨#[]⟩:ByteArray)⟩:api_Value)])) z4 ((IntKind.wrap .i64 (z5+1))) φ
 else
 (z1.length+1)*32≤140737488355328 ∧
 refute_build.L2 x0 x1 z0 ((z1++[(⟨z2,z3⟩:api_Row)])) ((IntKind.wrap .i64 (z4+1))) φ)):L3 x0 x1 z0 z1 a2 z2 z3 z4 z5 φ:=
 mIn <|
 mAsk 2 h dT dF (fun h=>
 h.elim fun h4 h=>
 mBi 12 (bin_shr (t:=28) (q:=.u32) (q':=.i64) (i1:=a2) h4) <|
 mApp 4 enc_api_Value z3 ([(⟨1,(IntKind.wrap .i64 (bAnd .u32 (shrw .u32 a2 z5) 1)),(⟨#[]⟩:ByteArray)⟩:api_Value)]) h fun h=>
 mFin 7 h) fun h=>
 mApp 8 enc_api_Row z1 ([(⟨z2,z3⟩:api_Row)]) h fun h=>
 mFin 7 h
theorem enter (x0:Int) (x1:List Int) (φ:api_Table→Prop) (h :
 refute_build.L1 x0 x1 ([]) 0 φ):∃ r,φ r∧C x0 x1 r:=
 mEnt (fd:=Tryd.f41) (body:=B) (V:=W) (res:=res) <|
 mFin 12 h
end refute_build
end Go.Own
namespace Go.Own
open Go.Proofs D
set_option maxRecDepth 100000
set_option maxHeartbeats 4000000
namespace refute_within
noncomputable def B:Code:=(Tryd.f39.body).getD .skip
def W:List Nat:=[0,1,4]
def res (r:Bool):D×List D:=(.lit (.bool r),[])
def C (x0 x1:Int) (r:Bool):Prop:=Ret env 39 [.lit (.int .i64 x0),.lit (.int .u32 x1)] (res r).1 (res r).2
theorem enter (x0 x1:Int) (φ:Bool→Prop) (h :
 0≤x0 ∧
 φ (((shrw .u64 (IntKind.wrap .u64 x1) x0) == 0))):∃ r,φ r∧C x0 x1 r:=
 mEnt (fd:=Tryd.f39) (body:=B) (V:=W) (res:=res) <|
 h.elim fun h1 h=>
 mBi 7 (bin_shr (t:=117) (q:=.u64) (q':=.i64) (i1:=(IntKind.wrap .u64 x1)) h1) <|
 mRet 3 h
end refute_within
end Go.Own
namespace Go.Own
open Go.Proofs D
set_option maxRecDepth 100000
set_option maxHeartbeats 4000000
namespace refute_FD
noncomputable def B:Code:=(Tryd.f15.body).getD .skip
def W:List Nat:=[0,1,2,5,6,7,8,13,23,27]
def res (r:api_Table×Int):D×List D:=(.tup [.agg [.lit (.string r.1.Name),.own (r.1.Attrs.map eS),.own (r.1.Rows.map enc_api_Row)],.lit (.int .i64 r.2)],[])
def C (x0:Int) (x1:List api_FD) (x2:api_FD) (r:api_Table×Int):Prop:=Ret env 15 [.lit (.int .i64 x0),.sl (x1.map enc_api_FD),.agg [.lit (.int .u32 x2.Lhs),.lit (.int .u32 x2.Rhs)]] (res r).1 (res r).2
theorem enter (x0:Int) (x1:List api_FD) (x2:api_FD) (φ:api_Table×Int→Prop) (h :
 ∃ r1:Int,closure_Valid.C x0 x1 r1 ∧
 (if r1=0 then
 ∃ r2:Bool,refute_within.C x0 ((bOr .u32 x2.Lhs x2.Rhs)) r2 ∧
 (if r2=true then
 ∃ r3:Bool,closure_Implies.C x1 x2 r3 ∧
 (if r3=true then
 φ (((⟨(⟨#[]⟩:ByteArray),[],[]⟩:api_Table),10))
 else
 0≤x0 ∧
 ∃ r5:Int,closure_Close.C x1 x2.Lhs r5 ∧
 ∃ r6:api_Table,refute_build.C x0 ([0,(bAndNot .u32 (IntKind.wrap .u32 ((shlw .u32 1 x0)-1)) r5)]) r6 ∧
 φ ((r6,0)))
 else
 φ (((⟨(⟨#[]⟩:ByteArray),[],[]⟩:api_Table),1)))
 else
 φ (((⟨(⟨#[]⟩:ByteArray),[],[]⟩:api_Table),r1)))):∃ r,φ r∧C x0 x1 x2 r:=
 mEnt (fd:=Tryd.f15) (body:=B) (V:=W) (res:=res) <|
 mCal 8 h (fun _ h=>h) fun r1 _ h=>
 mAskN 4 h bne_t bne_f (fun h=>
 mRet 8 h) fun h=>
 mCalB 10 h (fun _ h=>h) (fun _ h=>
 mCalB 7 h (fun _ h=>h) (fun _ h=>
 mRet 7 h) fun _ h=>
 h.elim fun h4 h=>
 mBi 6 (bin_shl (t:=28) (q:=.u32) (q':=.i64) (i1:=1) h4) <|
 mLo 4 h (fun _ h=>h) fun r5 _ h=>
 mCal 2 h (fun _ h=>h) (hr:=by exact (pr_k (pr_snap (snap_ow (s:=38) (ps:=[]) (l:=[0,(bAndNot .u32 (IntKind.wrap .u32 ((shlw .u32 1 x0)-1)) r5)]) (e:=(eI .u32)) (e':=(eI .u32)) (fun _=>rfl) (by kernel_rfl)) pr_nil))) (hf:=(fun _=>clF_flat (flat_agg (flts_cons rfl (flts_cons (flat_ow (e:=eS) (fun _=>rfl)) (flts_cons (flat_ow (e:=enc_api_Row) (fun _=>(flts_cons rfl (flts_cons (flat_ow (e:=enc_api_Value) (fun _=>rfl)) flts_nil)))) flts_nil)))) rfl)) fun r6 _ h=>
 mRet 3 h) fun _ h=>
 mRet 8 h
end refute_FD
end Go.Own
namespace Go.Own
open Go.Proofs D
set_option maxRecDepth 100000
set_option maxHeartbeats 4000000
namespace drossref20_number
end drossref20_number
end Go.Own
namespace Go.Own
open Go.Proofs D
set_option maxRecDepth 100000
set_option maxHeartbeats 4000000
namespace drossref20_within
end drossref20_within
end Go.Own
namespace Go.Own
open Go.Proofs D
set_option maxRecDepth 100000
set_option maxHeartbeats 4000000
namespace drossref20_FD
def res (r:api_Table×Int):D×List D:=(.tup [.agg [.lit (.string r.1.Name),.own (r.1.Attrs.map eS),.own (r.1.Rows.map enc_api_Row)],.lit (.int .i64 r.2)],[])
def C (x0:Int) (x1:List api_FD) (x2:api_FD) (r:api_Table×Int):Prop:=Ret env 16 [.lit (.int .i64 x0),.sl (x1.map enc_api_FD),.agg [.lit (.int .u32 x2.Lhs),.lit (.int .u32 x2.Rhs)]] (res r).1 (res r).2
end drossref20_FD
end Go.Own
namespace Go.Own
open Go.Proofs D
set_option maxRecDepth 100000
set_option maxHeartbeats 4000000
namespace drossref13_mixed
end drossref13_mixed
end Go.Own
namespace Go.Own
open Go.Proofs D
set_option maxRecDepth 100000
set_option maxHeartbeats 4000000
namespace drossref13_within
end drossref13_within
end Go.Own
namespace Go.Own
open Go.Proofs D
set_option maxRecDepth 100000
set_option maxHeartbeats 4000000
namespace drossref13_Holds
def res (r:Bool×Int):D×List D:=(.tup [.lit (.bool r.1),.lit (.int .i64 r.2)],[])
def C (x0:api_Table) (x1:api_MVD) (r:Bool×Int):Prop:=Ret env 51 [.agg [.lit (.string x0.Name),.sl (x0.Attrs.map eS),.sl (x0.Rows.map enc_api_Row_2)],.agg [.lit (.int .u32 x1.Lhs),.lit (.int .u32 x1.Rhs)]] (res r).1 (res r).2
end drossref13_Holds
end Go.Own
namespace Go.Own
open Go.Proofs D
set_option maxRecDepth 100000
set_option maxHeartbeats 4000000
namespace drossref20_Right
noncomputable def B:Code:=(Tryd.f18.body).getD .skip
def W:List Nat:=[0,1,2,3,6,7,8,9,10,14,23,27,40]
def res (r:Bool):D×List D:=(.lit (.bool r),[])
def C (x0:api_Table) (x1:List api_FD) (x2:List api_MVD) (r:Bool):Prop:=Ret env 18 [.agg [.lit (.string x0.Name),.sl (x0.Attrs.map eS),.sl (x0.Rows.map enc_api_Row_2)],.sl (x1.map enc_api_FD),.sl (x2.map enc_api_MVD)] (res r).1 (res r).2
def L1 (x0:api_Table) (x1:List api_FD) (x2:List api_MVD) (z0:Int) (φ:Bool→Prop):Prop:=Pt env 18 W B [1,0,1,0] [(0,.agg [.lit (.string x0.Name),.sl (x0.Attrs.map eS),.sl (x0.Rows.map enc_api_Row_2)]),(1,.sl (x1.map enc_api_FD)),(2,.sl (x2.map enc_api_MVD)),(3,.box [.lit (.string x0.Name),.sl (x0.Attrs.map eS),.sl (x0.Rows.map enc_api_Row_2)]),(7,.lit (.int .i64 z0))] (Lv env 18 Tryd.f18 3 res φ)
def L2 (x0:api_Table) (x2:List api_MVD) (z0:Int) (φ:Bool→Prop):Prop:=Pt env 18 W B [1,1,0,1,0] [(0,.agg [.lit (.string x0.Name),.sl (x0.Attrs.map eS),.sl (x0.Rows.map enc_api_Row_2)]),(2,.sl (x2.map enc_api_MVD)),(3,.box [.lit (.string x0.Name),.sl (x0.Attrs.map eS),.sl (x0.Rows.map enc_api_Row_2)]),(8,.lit (.int .i64 z0))] (Lv env 18 Tryd.f18 3 res φ)
theorem L1_step (x0:api_Table) (x1:List api_FD) (x2:List api_MVD) (z0:Int) (φ:Bool→Prop) (h :
 (if z0<(x1.length:Int) then
 ∃ a1,lget x1 z0=some a1 ∧
 ∃ r3:Bool,drossref08_Satisfies.C x0 a1 r3 ∧
 (if r3=true then
 drossref20_Right.L1 x0 x1 x2 ((IntKind.wrap .i64 (z0+1))) φ
 else
 φ false)
 else
 drossref20_Right.L2 x0 x2 0 φ)):L1 x0 x1 x2 z0 φ:=
 mIn <|
 mLen 4 enc_api_FD x1 <|
 mAsk 0 h dT dF (fun h=>
 mIx 7 enc_api_FD h fun a1 h2 h=>
 mCalB 1 h (fun _ h=>h) (fun _ h=>
 mFin 9 h) fun _ h=>
 mRet 6 h) fun h=>
 mFin 6 h
theorem L2_step (x0:api_Table) (x2:List api_MVD) (z0:Int) (φ:Bool→Prop) (h :
 (if z0<(x2.length:Int) then
 ∃ a4,lget x2 z0=some a4 ∧
 ∃ r6:Bool×Int,drossref13_Holds.C x0 a4 r6 ∧
 (if r6.1=true then
 drossref20_Right.L2 x0 x2 ((IntKind.wrap .i64 (z0+1))) φ
 else
 φ false)
 else
 φ true)):L2 x0 x2 z0 φ:=
 mIn <|
 mLen 4 enc_api_MVD x2 <|
 mAsk 0 h dT dF (fun h=>
 mIx 7 enc_api_MVD h fun a4 h5 h=>
 mCal 1 h (fun _ h=>h) (hf:=(fun _=>clF_flat (flat_tup (flts_cons rfl (flts_cons rfl flts_nil))) rfl)) fun r6 _ h=>
 mAsk 7 h id fls (fun h=>
 mFin 9 h) fun h=>
 mRet 6 h) fun h=>
 mRet 6 h
theorem enter (x0:api_Table) (x1:List api_FD) (x2:List api_MVD) (φ:Bool→Prop) (h :
 drossref20_Right.L1 x0 x1 x2 0 φ):∃ r,φ r∧C x0 x1 x2 r:=
 mEnt (fd:=Tryd.f18) (body:=B) (V:=W) (res:=res) <|
 mFin 7 h
end drossref20_Right
end Go.Own
namespace Go.Own
open Go.Proofs D
set_option maxRecDepth 100000
set_option maxHeartbeats 4000000
namespace refute_Mixed
def res (r:api_Table×Int):D×List D:=(.tup [.agg [.lit (.string r.1.Name),.own (r.1.Attrs.map eS),.own (r.1.Rows.map enc_api_Row)],.lit (.int .i64 r.2)],[])
def C (x0:Int) (x1:List api_FD) (x2:List api_MVD) (x3:api_FD) (r:api_Table×Int):Prop:=Ret env 24 [.lit (.int .i64 x0),.sl (x1.map enc_api_FD),.sl (x2.map enc_api_MVD),.agg [.lit (.int .u32 x3.Lhs),.lit (.int .u32 x3.Rhs)]] (res r).1 (res r).2
end refute_Mixed
end Go.Own
namespace Go.Own
open Go.Proofs D
set_option maxRecDepth 100000
set_option maxHeartbeats 4000000
namespace drosslaw20_awake
noncomputable def B:Code:=(Tryd.f14.body).getD .skip
def W:List Nat:=[0,1,2,3,4,5,6,7,8,9,10]
def res (r:Bool):D×List D:=(.lit (.bool r),[])
def C  (r:Bool):Prop:=Ret env 14 [] (res r).1 (res r).2
theorem enter  (φ:Bool→Prop) (h :
 ∃ r1:api_Table×Int,refute_FD.C 3 ([(⟨1,2⟩:api_FD)]) ((⟨1,4⟩:api_FD)) r1 ∧
 ∃ r2:api_Table×Int,drossref20_FD.C 3 ([(⟨1,2⟩:api_FD)]) ((⟨1,4⟩:api_FD)) r2 ∧
 ∃ r3:api_Table×Int,refute_Mixed.C 3 ([]) ([(⟨1,2⟩:api_MVD)]) ((⟨1,2⟩:api_FD)) r3 ∧
 ∃ r4:api_Table×Int,refute_FD.C 3 ([(⟨1,2⟩:api_FD)]) ((⟨5,2⟩:api_FD)) r4 ∧
 (if r1.2=0 then
 ∃ r5:Bool,drossref03_Equal.C r1.1 r2.1 r5 ∧
 (if r5=true then
 (if (r2.1.Rows.length:Int)=2 then
 (if r3.2=0 then
 ∃ r6:Int,drossref03_Valid.C r3.1 r6 ∧
 (if r6=0 then
 (if (r3.1.Attrs.length:Int)=3 then
 ∃ r7:Bool,drossref20_Right.C r3.1 ([]) ([(⟨1,2⟩:api_MVD)]) r7 ∧
 (if r7=true then
 ∃ r8:Bool,drossref08_Satisfies.C r3.1 ((⟨1,2⟩:api_FD)) r8 ∧
 (if r8=true then
 φ false
 else
 φ ((r4.2 == 10)))
 else
 φ false)
 else
 φ false)
 else
 φ false)
 else
 φ false)
 else
 φ false)
 else
 φ false)
 else
 φ false)):∃ r,φ r∧C  r:=
 mEnt (fd:=Tryd.f14) (body:=B) (V:=W) (res:=res) <|
 mCal 11 h (fun _ h=>h) (hr:=by exact (pr_k (pr_snap (snap_ow (s:=1) (ps:=[]) (l:=[(⟨1,2⟩:api_FD)]) (e:=enc_api_FD) (e':=enc_api_FD) (fun _=>rfl) (by kernel_rfl)) (pr_k pr_nil)))) (hf:=(fun _=>clF_flat (flat_tup (flts_cons (flat_agg (flts_cons rfl (flts_cons (flat_ow (e:=eS) (fun _=>rfl)) (flts_cons (flat_ow (e:=enc_api_Row) (fun _=>(flts_cons rfl (flts_cons (flat_ow (e:=enc_api_Value) (fun _=>rfl)) flts_nil)))) flts_nil)))) (flts_cons rfl flts_nil))) rfl)) fun r1 _ h=>
 mCal 10 h (fun _ h=>h) (hr:=by exact (pr_k (pr_snap (snap_ow (s:=1) (ps:=[]) (l:=[(⟨1,2⟩:api_FD)]) (e:=enc_api_FD) (e':=enc_api_FD) (fun _=>rfl) (by kernel_rfl)) (pr_k pr_nil)))) (hf:=(fun _=>clF_flat (flat_tup (flts_cons (flat_agg (flts_cons rfl (flts_cons (flat_ow (e:=eS) (fun _=>rfl)) (flts_cons (flat_ow (e:=enc_api_Row) (fun _=>(flts_cons rfl (flts_cons (flat_ow (e:=enc_api_Value) (fun _=>rfl)) flts_nil)))) flts_nil)))) (flts_cons rfl flts_nil))) rfl)) fun r2 _ h=>
 mCal 15 h (fun _ h=>h) (hr:=by exact (pr_k (pr_k (pr_snap (snap_ow (s:=6) (ps:=[]) (l:=[(⟨1,2⟩:api_MVD)]) (e:=enc_api_MVD) (e':=enc_api_MVD) (fun _=>rfl) (by kernel_rfl)) (pr_k pr_nil))))) (hf:=(fun _=>clF_flat (flat_tup (flts_cons (flat_agg (flts_cons rfl (flts_cons (flat_ow (e:=eS) (fun _=>rfl)) (flts_cons (flat_ow (e:=enc_api_Row) (fun _=>(flts_cons rfl (flts_cons (flat_ow (e:=enc_api_Value) (fun _=>rfl)) flts_nil)))) flts_nil)))) (flts_cons rfl flts_nil))) rfl)) fun r3 _ h=>
 mCal 10 h (fun _ h=>h) (hr:=by exact (pr_k (pr_snap (snap_ow (s:=1) (ps:=[]) (l:=[(⟨1,2⟩:api_FD)]) (e:=enc_api_FD) (e':=enc_api_FD) (fun _=>rfl) (by kernel_rfl)) (pr_k pr_nil)))) (hf:=(fun _=>clF_flat (flat_tup (flts_cons (flat_agg (flts_cons rfl (flts_cons (flat_ow (e:=eS) (fun _=>rfl)) (flts_cons (flat_ow (e:=enc_api_Row) (fun _=>(flts_cons rfl (flts_cons (flat_ow (e:=enc_api_Value) (fun _=>rfl)) flts_nil)))) flts_nil)))) (flts_cons rfl flts_nil))) rfl)) fun r4 _ h=>
 mAsk 9 h beq_t beq_f (fun h=>
 mCalB 3 h (fun _ h=>h) (hr:=by exact (pr_snap (snap_agg (snaps_cons (d:=.lit (.string r1.1.Name)) (d':=.lit (.string r1.1.Name)) (by kernel_rfl) (snaps_cons (d:=.alias 2 [(0,1)]) (d':=.sl (r1.1.Attrs.map eS)) (snap_ow (s:=2) (ps:=[(0,1)]) (l:=r1.1.Attrs) (e:=eS) (e':=eS) (fun _=>rfl) (by kernel_rfl)) (snaps_cons (d:=.alias 2 [(0,2)]) (d':=.sl (r1.1.Rows.map enc_api_Row_2)) (snap_ow (s:=2) (ps:=[(0,2)]) (l:=r1.1.Rows) (e:=enc_api_Row) (e':=enc_api_Row_2) (fun x=>(fcs_cons rfl (fcs_cons (freeze_ow (e:=enc_api_Value) (e':=enc_api_Value) (fun _=>rfl) x.Values) fcs_nil))) (by kernel_rfl)) snaps_nil)))) (pr_snap (snap_agg (snaps_cons (d:=.lit (.string r2.1.Name)) (d':=.lit (.string r2.1.Name)) (by kernel_rfl) (snaps_cons (d:=.alias 4 [(0,1)]) (d':=.sl (r2.1.Attrs.map eS)) (snap_ow (s:=4) (ps:=[(0,1)]) (l:=r2.1.Attrs) (e:=eS) (e':=eS) (fun _=>rfl) (by kernel_rfl)) (snaps_cons (d:=.alias 4 [(0,2)]) (d':=.sl (r2.1.Rows.map enc_api_Row_2)) (snap_ow (s:=4) (ps:=[(0,2)]) (l:=r2.1.Rows) (e:=enc_api_Row) (e':=enc_api_Row_2) (fun x=>(fcs_cons rfl (fcs_cons (freeze_ow (e:=enc_api_Value) (e':=enc_api_Value) (fun _=>rfl) x.Values) fcs_nil))) (by kernel_rfl)) snaps_nil)))) pr_nil))) (fun _ h=>
 mLen 4 enc_api_Row r2.1.Rows <|
 mAsk 0 h beq_t beq_f (fun h=>
 mAsk 3 h beq_t beq_f (fun h=>
 mCal 3 h (fun _ h=>h) (hr:=by exact (pr_snap (snap_agg (snaps_cons (d:=.lit (.string r3.1.Name)) (d':=.lit (.string r3.1.Name)) (by kernel_rfl) (snaps_cons (d:=.alias 7 [(0,1)]) (d':=.sl (r3.1.Attrs.map eS)) (snap_ow (s:=7) (ps:=[(0,1)]) (l:=r3.1.Attrs) (e:=eS) (e':=eS) (fun _=>rfl) (by kernel_rfl)) (snaps_cons (d:=.alias 7 [(0,2)]) (d':=.sl (r3.1.Rows.map enc_api_Row_2)) (snap_ow (s:=7) (ps:=[(0,2)]) (l:=r3.1.Rows) (e:=enc_api_Row) (e':=enc_api_Row_2) (fun x=>(fcs_cons rfl (fcs_cons (freeze_ow (e:=enc_api_Value) (e':=enc_api_Value) (fun _=>rfl) x.Values) fcs_nil))) (by kernel_rfl)) snaps_nil)))) pr_nil)) fun r6 _ h=>
 mAsk 0 h beq_t beq_f (fun h=>
 mLen 4 eS r3.1.Attrs <|
 mAsk 0 h beq_t beq_f (fun h=>
 mCalB 4 h (fun _ h=>h) (hr:=by exact (pr_snap (snap_agg (snaps_cons (d:=.lit (.string r3.1.Name)) (d':=.lit (.string r3.1.Name)) (by kernel_rfl) (snaps_cons (d:=.alias 7 [(0,1)]) (d':=.sl (r3.1.Attrs.map eS)) (snap_ow (s:=7) (ps:=[(0,1)]) (l:=r3.1.Attrs) (e:=eS) (e':=eS) (fun _=>rfl) (by kernel_rfl)) (snaps_cons (d:=.alias 7 [(0,2)]) (d':=.sl (r3.1.Rows.map enc_api_Row_2)) (snap_ow (s:=7) (ps:=[(0,2)]) (l:=r3.1.Rows) (e:=enc_api_Row) (e':=enc_api_Row_2) (fun x=>(fcs_cons rfl (fcs_cons (freeze_ow (e:=enc_api_Value) (e':=enc_api_Value) (fun _=>rfl) x.Values) fcs_nil))) (by kernel_rfl)) snaps_nil)))) (pr_k (pr_snap (snap_ow (s:=6) (ps:=[]) (l:=[(⟨1,2⟩:api_MVD)]) (e:=enc_api_MVD) (e':=enc_api_MVD) (fun _=>rfl) (by kernel_rfl)) pr_nil)))) (fun _ h=>
 mCalB 4 h (fun _ h=>h) (hr:=by exact (pr_snap (snap_agg (snaps_cons (d:=.lit (.string r3.1.Name)) (d':=.lit (.string r3.1.Name)) (by kernel_rfl) (snaps_cons (d:=.alias 7 [(0,1)]) (d':=.sl (r3.1.Attrs.map eS)) (snap_ow (s:=7) (ps:=[(0,1)]) (l:=r3.1.Attrs) (e:=eS) (e':=eS) (fun _=>rfl) (by kernel_rfl)) (snaps_cons (d:=.alias 7 [(0,2)]) (d':=.sl (r3.1.Rows.map enc_api_Row_2)) (snap_ow (s:=7) (ps:=[(0,2)]) (l:=r3.1.Rows) (e:=enc_api_Row) (e':=enc_api_Row_2) (fun x=>(fcs_cons rfl (fcs_cons (freeze_ow (e:=enc_api_Value) (e':=enc_api_Value) (fun _=>rfl) x.Values) fcs_nil))) (by kernel_rfl)) snaps_nil)))) (pr_k pr_nil))) (fun _ h=>
 mRet 8 h) fun _ h=>
 mRet 8 h) fun _ h=>
 mRet 13 h) fun h=>
 mRet 18 h) fun h=>
 mRet 24 h) fun h=>
 mRet 29 h) fun h=>
 mRet 33 h) fun _ h=>
 mRet 39 h) fun h=>
 mRet 43 h
end drosslaw20_awake
end Go.Own
namespace Go.Own
set_option maxRecDepth 1000000
def exV (k:Int):api_Value:=⟨1,k,⟨#[]⟩⟩
def exT (rows:List api_Row):api_Table:=⟨⟨#[116]⟩,[⟨#[97]⟩,⟨#[98]⟩,⟨#[99]⟩],rows⟩
def exA:api_Table:=exT [⟨1,[exV 0,exV 0,exV 0]⟩,⟨2,[exV 0,exV 0,exV 1]⟩]
def exB20:api_Table:=exT [⟨1,[exV 0,exV 0,exV 0]⟩,⟨2,[exV 0,exV 1,exV 1]⟩,⟨3,[exV 0,exV 0,exV 1]⟩,⟨4,[exV 0,exV 1,exV 0]⟩]
theorem ex20a:refute_FD.C 3 [⟨1,2⟩] ⟨1,4⟩ (exA,0):=Ret.of (n:=300) (by kernel_rfl)
theorem ex20b:drossref20_FD.C 3 [⟨1,2⟩] ⟨1,4⟩ (exA,0):=Ret.of (n:=300) (by kernel_rfl)
theorem ex20c:refute_Mixed.C 3 [] [⟨1,2⟩] ⟨1,2⟩ (exB20,0):=Ret.of (n:=300) (by kernel_rfl)
theorem ex20d:refute_FD.C 3 [⟨1,2⟩] ⟨5,2⟩ (⟨⟨#[]⟩,[],[]⟩,10):=Ret.of (n:=300) (by kernel_rfl)
theorem ex20e:drossref03_Equal.C exA exA true:=Ret.of (n:=300) (by kernel_rfl)
theorem ex20f:drossref03_Valid.C exB20 0:=Ret.of (n:=300) (by kernel_rfl)
theorem ex20g:drossref20_Right.C exB20 [] [⟨1,2⟩] true:=Ret.of (n:=300) (by kernel_rfl)
theorem ex20h:drossref08_Satisfies.C exB20 ⟨1,2⟩ false:=Ret.of (n:=300) (by kernel_rfl)
theorem ite_in {c a b:Prop} [Decidable c] (h:c) (k:a):if c then a else b:=by rwa [if_pos h]
theorem ite_out {c a b:Prop} [Decidable c] (h:¬ c) (k:b):if c then a else b:=by rwa [if_neg h]
theorem drosslaw20_awake.spec:drosslaw20_awake.C true:=by
 obtain ⟨r,h1,h2⟩:=drosslaw20_awake.enter (fun r=>r=true) (by
  refine ⟨_,ex20a,_,ex20b,_,ex20c,_,ex20d,?_⟩
  refine ite_in rfl ⟨_,ex20e,?_⟩
  refine ite_in rfl (ite_in rfl (ite_in rfl ⟨_,ex20f,?_⟩))
  refine ite_in rfl (ite_in rfl ⟨_,ex20g,?_⟩)
  refine ite_in rfl ⟨_,ex20h,?_⟩
  exact ite_out (by decide) rfl)
 subst h1;exact h2
end Go.Own
namespace Go.Own
open Go.Proofs D
set_option maxRecDepth 100000
set_option maxHeartbeats 4000000
namespace drossref01_Of
noncomputable def B:Code:=(Tryd.f70.body).getD .skip
def W:List Nat:=[0,2,4,5,8,11,14,17,20,23,26,29,32,35]
def res (r:api_Value):D×List D:=(.agg [.lit (.int .i64 r.Kind),.lit (.int .i64 r.Num),.lit (.string r.Str)],[])
def C (x0:Int) (r:api_Value):Prop:=Ret env 70 [.lit (.int .u8 x0)] (res r).1 (res r).2
theorem enter (x0:Int) (φ:api_Value→Prop) (h :
 (if (Int.tmod x0 12)=0 then
 φ ((⟨1,0,(⟨#[]⟩:ByteArray)⟩:api_Value))
 else
 (if (Int.tmod x0 12)=1 then
 φ ((⟨1,1,(⟨#[]⟩:ByteArray)⟩:api_Value))
 else
 (if (Int.tmod x0 12)=2 then
 φ ((⟨1,2,(⟨#[]⟩:ByteArray)⟩:api_Value))
 else
 (if (Int.tmod x0 12)=3 then
 φ ((⟨0,0,(⟨#[]⟩:ByteArray)⟩:api_Value))
 else
 (if (Int.tmod x0 12)=4 then
 φ ((⟨2,0,(⟨#[97]⟩:ByteArray)⟩:api_Value))
 else
 (if (Int.tmod x0 12)=5 then
 φ ((⟨2,0,(⟨#[98]⟩:ByteArray)⟩:api_Value))
 else
 (if (Int.tmod x0 12)=6 then
 φ ((⟨2,0,(⟨#[]⟩:ByteArray)⟩:api_Value))
 else
 (if (Int.tmod x0 12)=7 then
 φ ((⟨3,1,(⟨#[]⟩:ByteArray)⟩:api_Value))
 else
 (if (Int.tmod x0 12)=8 then
 φ ((⟨1,(-1),(⟨#[]⟩:ByteArray)⟩:api_Value))
 else
 (if (Int.tmod x0 12)=9 then
 φ ((⟨2,0,(⟨#[97,98]⟩:ByteArray)⟩:api_Value))
 else
 (if (Int.tmod x0 12)=10 then
 φ ((⟨3,2,(⟨#[]⟩:ByteArray)⟩:api_Value))
 else
 φ ((⟨1,7,(⟨#[]⟩:ByteArray)⟩:api_Value)))))))))))))):∃ r,φ r∧C x0 r:=
 mEnt (fd:=Tryd.f70) (body:=B) (V:=W) (res:=res) <|
 mCon 11 h beq_t beq_f (fun h=>
 mRet 4 h) fun h=>
 mCon 4 h beq_t beq_f (fun h=>
 mRet 4 h) fun h=>
 mCon 4 h beq_t beq_f (fun h=>
 mRet 4 h) fun h=>
 mCon 4 h beq_t beq_f (fun h=>
 mRet 4 h) fun h=>
 mCon 4 h beq_t beq_f (fun h=>
 mRet 4 h) fun h=>
 mCon 4 h beq_t beq_f (fun h=>
 mRet 4 h) fun h=>
 mCon 4 h beq_t beq_f (fun h=>
 mRet 4 h) fun h=>
 mCon 4 h beq_t beq_f (fun h=>
 mRet 4 h) fun h=>
 mCon 4 h beq_t beq_f (fun h=>
 mRet 4 h) fun h=>
 mCon 4 h beq_t beq_f (fun h=>
 mRet 4 h) fun h=>
 mCon 4 h beq_t beq_f (fun h=>
 mRet 4 h) fun h=>
 mRet 5 h
end drossref01_Of
end Go.Own
namespace Go.Own
open Go.Proofs D
set_option maxRecDepth 100000
set_option maxHeartbeats 4000000
namespace drossref03_Wide
noncomputable def B:Code:=(Tryd.f53.body).getD .skip
def W:List Nat:=[0,1,2,4,5,6,7,8,9,20,34,44]
def res (r:api_Table):D×List D:=(.agg [.lit (.string r.Name),.own (r.Attrs.map eS),.own (r.Rows.map enc_api_Row)],[])
def C (x0:drossref03_Recipe) (x1:Int) (r:api_Table):Prop:=Ret env 53 [.agg [.lit (.int .u8 x0.Attrs),.lit (.int .u8 x0.Gap),.sl (x0.Rows.map (eSl (eI .u8)))],.lit (.int .i64 x1)] (res r).1 (res r).2
def L1 (x0:drossref03_Recipe) (x1:Int) (z0:List api_Row) (z1:Int) (φ:api_Table→Prop):Prop:=Pt env 53 W B [1,1,0,1,0] [(0,.agg [.lit (.int .u8 x0.Attrs),.lit (.int .u8 x0.Gap),.sl (x0.Rows.map (eSl (eI .u8)))]),(1,.lit (.int .i64 x1)),(2,.box [.lit (.int .u8 x0.Attrs),.lit (.int .u8 x0.Gap),.sl (x0.Rows.map (eSl (eI .u8)))]),(4,.box [.lit (.string ((⟨#[]⟩:ByteArray))),.own [],.own []]),(5,.box [.lit (.string ((⟨#[114]⟩:ByteArray))),.own (((List.take (x1.toNat-0) (List.drop 0 [(⟨#[97]⟩:ByteArray),(⟨#[98]⟩:ByteArray),(⟨#[99]⟩:ByteArray),(⟨#[100]⟩:ByteArray),(⟨#[101]⟩:ByteArray),(⟨#[102]⟩:ByteArray),(⟨#[103]⟩:ByteArray),(⟨#[104]⟩:ByteArray)]))).map eS),.own (z0.map enc_api_Row)]),(6,.lit (.int .i64 z1))] (Lv env 53 Tryd.f53 2 res φ)
def L2 (x0:drossref03_Recipe) (x1:Int) (z0:List api_Row) (z1 z2:Int) (z3:List api_Value) (z4:Int) (φ:api_Table→Prop):Prop:=Pt env 53 W B [1,1,0,1,0,0,1,0,0,1,0,1,0] [(0,.agg [.lit (.int .u8 x0.Attrs),.lit (.int .u8 x0.Gap),.sl (x0.Rows.map (eSl (eI .u8)))]),(1,.lit (.int .i64 x1)),(2,.box [.lit (.int .u8 x0.Attrs),.lit (.int .u8 x0.Gap),.sl (x0.Rows.map (eSl (eI .u8)))]),(4,.box [.lit (.string ((⟨#[]⟩:ByteArray))),.own [],.own []]),(5,.box [.lit (.string ((⟨#[114]⟩:ByteArray))),.own (((List.take (x1.toNat-0) (List.drop 0 [(⟨#[97]⟩:ByteArray),(⟨#[98]⟩:ByteArray),(⟨#[99]⟩:ByteArray),(⟨#[100]⟩:ByteArray),(⟨#[101]⟩:ByteArray),(⟨#[102]⟩:ByteArray),(⟨#[103]⟩:ByteArray),(⟨#[104]⟩:ByteArray)]))).map eS),.own (z0.map enc_api_Row)]),(6,.lit (.int .i64 z1)),(7,.box [.lit (.int .i64 z2),.own (z3.map enc_api_Value)]),(8,.lit (.int .i64 z4))] (Lv env 53 Tryd.f53 2 res φ)
def L3 (x0:drossref03_Recipe) (x1:Int) (z0:List api_Row) (z1 z2:Int) (z3:List api_Value) (z4 a7:Int) (φ:api_Table→Prop):Prop:=Pt env 53 W B [1,1,0,1,0,0,1,0,0,1,0,1,0,0,1,0,0,1,1] [(0,.agg [.lit (.int .u8 x0.Attrs),.lit (.int .u8 x0.Gap),.sl (x0.Rows.map (eSl (eI .u8)))]),(1,.lit (.int .i64 x1)),(2,.box [.lit (.int .u8 x0.Attrs),.lit (.int .u8 x0.Gap),.sl (x0.Rows.map (eSl (eI .u8)))]),(4,.box [.lit (.string ((⟨#[]⟩:ByteArray))),.own [],.own []]),(5,.box [.lit (.string ((⟨#[114]⟩:ByteArray))),.own (((List.take (x1.toNat-0) (List.drop 0 [(⟨#[97]⟩:ByteArray),(⟨#[98]⟩:ByteArray),(⟨#[99]⟩:ByteArray),(⟨#[100]⟩:ByteArray),(⟨#[101]⟩:ByteArray),(⟨#[102]⟩:ByteArray),(⟨#[103]⟩:ByteArray),(⟨#[104]⟩:ByteArray)]))).map eS),.own (z0.map enc_api_Row)]),(6,.lit (.int .i64 z1)),(7,.box [.lit (.int .i64 z2),.own (z3.map enc_api_Value)]),(8,.lit (.int .i64 z4)),(9,.lit (.int .u8 a7))] (Lv env 53 Tryd.f53 2 res φ)
theorem L1_step (x0:drossref03_Recipe) (x1:Int) (z0:List api_Row) (z1:Int) (φ:api_Table→Prop) (h :
 (if z1<(x0.Rows.length:Int) then
 drossref03_Wide.L2 x0 x1 z0 z1 ((IntKind.wrap .i64 (1+(IntKind.wrap .i64 (z1*(IntKind.wrap .i64 (1+(IntKind.wrap .i64 (Int.tmod x0.Gap 3))))))))) ([]) 0 φ
 else
 φ ((⟨(⟨#[114]⟩:ByteArray),(List.take (x1.toNat-0) (List.drop 0 [(⟨#[97]⟩:ByteArray),(⟨#[98]⟩:ByteArray),(⟨#[99]⟩:ByteArray),(⟨#[100]⟩:ByteArray),(⟨#[101]⟩:ByteArray),(⟨#[102]⟩:ByteArray),(⟨#[103]⟩:ByteArray),(⟨#[104]⟩:ByteArray)])),z0⟩:api_Table)))):L1 x0 x1 z0 z1 φ:=
 mIn <|
 mLen 5 (eSl (eI .u8)) x0.Rows <|
 mAsk 0 h dT dF (fun h=>
 mFin 19 h) fun h=>
 mRet 7 h
theorem L2_step (x0:drossref03_Recipe) (x1:Int) (z0:List api_Row) (z1 z2:Int) (z3:List api_Value) (z4:Int) (φ:api_Table→Prop) (h :
 (if z4<x1 then
 ∃ a5,lget x0.Rows z1=some a5 ∧
 (if z4<(a5.length:Int) then
 ∃ a7,lget a5 z4=some a7 ∧
 drossref03_Wide.L3 x0 x1 z0 z1 z2 z3 z4 a7 φ
 else
 drossref03_Wide.L3 x0 x1 z0 z1 z2 z3 z4 0 φ)
 else
 (z0.length+1)*32≤140737488355328 ∧
 drossref03_Wide.L1 x0 x1 ((z0++[(⟨z2,z3⟩:api_Row)])) ((IntKind.wrap .i64 (z1+1))) φ)):L2 x0 x1 z0 z1 z2 z3 z4 φ:=
 mIn <|
 mAsk 4 h dT dF (fun h=>
 mIx 11 (eSl (eI .u8)) h fun a5 h6 h=>
 mLen 1 (eI .u8) a5 <|
 mAsk 0 h dT dF (fun h=>
 mIxf 6 (eSl (eI .u8)) h6 <|
 mIx 2 (eI .u8) h fun a7 h8 h=>
 mFin 3 h) fun h=>
 mFin 3 h) fun h=>
 mApp 8 enc_api_Row z0 ([(⟨z2,z3⟩:api_Row)]) h fun h=>
 mFin 8 h
theorem L3_step (x0:drossref03_Recipe) (x1:Int) (z0:List api_Row) (z1 z2:Int) (z3:List api_Value) (z4 a7:Int) (φ:api_Table→Prop) (h :
 ∃ r10:api_Value,drossref01_Of.C a7 r10 ∧
 (z3.length+1)*32≤140737488355328 ∧
 drossref03_Wide.L2 x0 x1 z0 z1 z2 ((z3++[r10])) ((IntKind.wrap .i64 (z4+1))) φ):L3 x0 x1 z0 z1 z2 z3 z4 a7 φ:=
 mIn <|
 mLo 4 h (fun _ h=>h) (hf:=(fun _=>loF_flat (flat_agg (flts_cons rfl (flts_cons rfl (flts_cons rfl flts_nil)))))) fun r10 _ h=>
 mApp 1 enc_api_Value z3 ([r10]) h fun h=>
 mFin 8 h
theorem enter (x0:drossref03_Recipe) (x1:Int) (φ:api_Table→Prop) (h :
 0≤x1 ∧
 (0≤x1.toNat∧x1.toNat≤([(⟨#[97]⟩:ByteArray),(⟨#[98]⟩:ByteArray),(⟨#[99]⟩:ByteArray),(⟨#[100]⟩:ByteArray),(⟨#[101]⟩:ByteArray),(⟨#[102]⟩:ByteArray),(⟨#[103]⟩:ByteArray),(⟨#[104]⟩:ByteArray)]).length) ∧
 0+(x1.toNat-0)≤([(⟨#[97]⟩:ByteArray),(⟨#[98]⟩:ByteArray),(⟨#[99]⟩:ByteArray),(⟨#[100]⟩:ByteArray),(⟨#[101]⟩:ByteArray),(⟨#[102]⟩:ByteArray),(⟨#[103]⟩:ByteArray),(⟨#[104]⟩:ByteArray)]).length ∧
 (0+((List.take (x1.toNat-0) (List.drop 0 [(⟨#[97]⟩:ByteArray),(⟨#[98]⟩:ByteArray),(⟨#[99]⟩:ByteArray),(⟨#[100]⟩:ByteArray),(⟨#[101]⟩:ByteArray),(⟨#[102]⟩:ByteArray),(⟨#[103]⟩:ByteArray),(⟨#[104]⟩:ByteArray)]))).length)*16≤140737488355328 ∧
 drossref03_Wide.L1 x0 x1 ([]) 0 φ):∃ r,φ r∧C x0 x1 r:=
 mEnt (fd:=Tryd.f53) (body:=B) (V:=W) (res:=res) <|
 h.elim fun h1 h=>
 h.elim fun h2 h=>
 mVl 8 (val_slice_ow (s:=11) (ps:=[]) (t:=49) (x:=(.tmp 11)) (lo:=none) (hi:=(some (.tmp 12))) (lo':=none) (hi':=some (x1).toNat) (e:=eS) (l:=[(⟨#[97]⟩:ByteArray),(⟨#[98]⟩:ByteArray),(⟨#[99]⟩:ByteArray),(⟨#[100]⟩:ByteArray),(⟨#[101]⟩:ByteArray),(⟨#[102]⟩:ByteArray),(⟨#[103]⟩:ByteArray),(⟨#[104]⟩:ByteArray)]) (et:=9) (k:=1) (by kernel_rfl) (by kernel_rfl) (elemsOf_ow (by kernel_rfl)) optNat_none (optNat_some (i:=x1) (q:=.i64) (by kernel_rfl) h1) (by kernel_rfl) (by kernel_rfl) (fun _=>rfl) (by kernel_rfl) h2.1 h2.2) <|
 h.elim fun h3 h=>
 h.elim fun h4 h=>
 mOp 0 (app3 (x:=(.tmp 10)) (y:=(.tmp 13)) (t:=49) (u:=49) (et:=9) (z:=.lit (.string ((⟨#[]⟩:ByteArray)))) (k:=1) (c:=16) (e:=eS) (l:=[]) (m:=(List.take (x1.toNat-0) (List.drop 0 [(⟨#[97]⟩:ByteArray),(⟨#[98]⟩:ByteArray),(⟨#[99]⟩:ByteArray),(⟨#[100]⟩:ByteArray),(⟨#[101]⟩:ByteArray),(⟨#[102]⟩:ByteArray),(⟨#[103]⟩:ByteArray),(⟨#[104]⟩:ByteArray)]))) (by kernel_rfl) (by kernel_rfl) (by kernel_rfl) (by kernel_rfl) (by kernel_rfl) (by kernel_rfl) (newElems_sub (s:=11) (ps:=[]) (off:=0) (len:=(x1.toNat-0)) (by kernel_rfl) (elemsOf_subow (s:=11) (ps:=[]) (l:=[(⟨#[97]⟩:ByteArray),(⟨#[98]⟩:ByteArray),(⟨#[99]⟩:ByteArray),(⟨#[100]⟩:ByteArray),(⟨#[101]⟩:ByteArray),(⟨#[102]⟩:ByteArray),(⟨#[103]⟩:ByteArray),(⟨#[104]⟩:ByteArray)]) (e:=eS) (by kernel_rfl) h3) (fun _=>rfl)) (by kernel_rfl) (by kernel_rfl) (by kernel_rfl) (by kernel_rfl) (fun _=>rfl) h4) <|
 mFin 7 h
end drossref03_Wide
end Go.Own
namespace Go.Own
open Go.Proofs D
set_option maxRecDepth 100000
set_option maxHeartbeats 4000000
namespace drossref03_Table
noncomputable def B:Code:=(Tryd.f20.body).getD .skip
def W:List Nat:=[0,1,2,4,5,10]
def res (r:api_Table×Bool):D×List D:=(.tup [.agg [.lit (.string r.1.Name),.own (r.1.Attrs.map eS),.own (r.1.Rows.map enc_api_Row)],.lit (.bool r.2)],[])
def C (x0:drossref03_Recipe) (x1:Int) (r:api_Table×Bool):Prop:=Ret env 20 [.agg [.lit (.int .u8 x0.Attrs),.lit (.int .u8 x0.Gap),.sl (x0.Rows.map (eSl (eI .u8)))],.lit (.int .i64 x1)] (res r).1 (res r).2
theorem enter (x0:drossref03_Recipe) (x1:Int) (φ:api_Table×Bool→Prop) (h :
 (if x1<(x0.Rows.length:Int) then
 φ (((⟨(⟨#[]⟩:ByteArray),[],[]⟩:api_Table),false))
 else
 ∃ r1:api_Table,drossref03_Wide.C x0 ((IntKind.wrap .i64 (Int.tmod x0.Attrs 6))) r1 ∧
 φ ((r1,true)))):∃ r,φ r∧C x0 x1 r:=
 mEnt (fd:=Tryd.f20) (body:=B) (V:=W) (res:=res) <|
 mLen 8 (eSl (eI .u8)) x0.Rows <|
 mAsk 1 h dT dF (fun h=>
 mRet 7 h) fun h=>
 mCal 9 h (fun _ h=>h) (hf:=(fun _=>clF_flat (flat_agg (flts_cons rfl (flts_cons (flat_ow (e:=eS) (fun _=>rfl)) (flts_cons (flat_ow (e:=enc_api_Row) (fun _=>(flts_cons rfl (flts_cons (flat_ow (e:=enc_api_Value) (fun _=>rfl)) flts_nil)))) flts_nil)))) rfl)) fun r1 _ h=>
 mRet 3 h
end drossref03_Table
end Go.Own
namespace Go.Own
open Go.Proofs D
set_option maxRecDepth 100000
set_option maxHeartbeats 4000000
namespace drossref09_List
noncomputable def B:Code:=(Tryd.f21.body).getD .skip
def W:List Nat:=[0,1,4,5,6,7,13]
def res (r:List api_FD):D×List D:=(.own (r.map enc_api_FD),[])
def C (x0:Int) (x1:List drossref09_Dep) (r:List api_FD):Prop:=Ret env 21 [.lit (.int .i64 x0),.sl (x1.map enc_drossref09_Dep)] (res r).1 (res r).2
def L1 (x1:List drossref09_Dep) (r1:Int) (z0:List api_FD) (z1:Int) (φ:List api_FD→Prop):Prop:=Pt env 21 W B [1,1,1,0,1,0] [(1,.sl (x1.map enc_drossref09_Dep)),(5,.lit (.int .u32 r1)),(6,.own (z0.map enc_api_FD)),(7,.lit (.int .i64 z1))] (Lv env 21 Tryd.f21 2 res φ)
theorem L1_step (x1:List drossref09_Dep) (r1:Int) (z0:List api_FD) (z1:Int) (φ:List api_FD→Prop) (h :
 (if z1<(x1.length:Int) then
 ∃ a2,lget x1 z1=some a2 ∧
 (z0.length+1)*8≤140737488355328 ∧
 drossref09_List.L1 x1 r1 ((z0++[(⟨(bAnd .u32 (IntKind.wrap .u32 a2.L) r1),(bAnd .u32 (IntKind.wrap .u32 a2.R) r1)⟩:api_FD)])) ((IntKind.wrap .i64 (z1+1))) φ
 else
 φ z0)):L1 x1 r1 z0 z1 φ:=
 mIn <|
 mLen 4 enc_drossref09_Dep x1 <|
 mAsk 0 h dT dF (fun h=>
 mIx 7 enc_drossref09_Dep h fun a2 h3 h=>
 mIxf 7 enc_drossref09_Dep h3 <|
 mApp 7 enc_api_FD z0 ([(⟨(bAnd .u32 (IntKind.wrap .u32 a2.L) r1),(bAnd .u32 (IntKind.wrap .u32 a2.R) r1)⟩:api_FD)]) h fun h=>
 mFin 7 h) fun h=>
 mRet 7 h
theorem enter (x0:Int) (x1:List drossref09_Dep) (φ:List api_FD→Prop) (h :
 ∃ r1:Int,drossref02_Full.C x0 r1 ∧
 drossref09_List.L1 x1 r1 ([]) 0 φ):∃ r,φ r∧C x0 x1 r:=
 mEnt (fd:=Tryd.f21) (body:=B) (V:=W) (res:=res) <|
 mCal 5 h (fun _ h=>h) fun r1 _ h=>
 mFin 8 h
end drossref09_List
end Go.Own
namespace Go.Own
open Go.Proofs D
set_option maxRecDepth 100000
set_option maxHeartbeats 4000000
namespace drosslaw20_sets
noncomputable def B:Code:=(Tryd.f22.body).getD .skip
def W:List Nat:=[0,1,3,4,5,6]
def res (r:Int×Int):D×List D:=(.tup [.lit (.int .u32 r.1),.lit (.int .u32 r.2)],[])
def C (x0:Int) (x1:(Int×Int)) (r:Int×Int):Prop:=Ret env 22 [.lit (.int .i64 x0),.agg [.lit (.int .u8 x1.1),.lit (.int .u8 x1.2)]] (res r).1 (res r).2
theorem enter (x0:Int) (x1:(Int×Int)) (φ:Int×Int→Prop) (h :
 ∃ r1:Int,drossref02_Full.C x0 r1 ∧
 φ (((bAnd .u32 (IntKind.wrap .u32 x1.1) r1),(bAnd .u32 (IntKind.wrap .u32 x1.2) r1)))):∃ r,φ r∧C x0 x1 r:=
 mEnt (fd:=Tryd.f22) (body:=B) (V:=W) (res:=res) <|
 mCal 7 h (fun _ h=>h) fun r1 _ h=>
 mRet 16 h
end drosslaw20_sets
end Go.Own
namespace Go.Own
open Go.Proofs D
set_option maxRecDepth 100000
set_option maxHeartbeats 4000000
namespace drosslaw20_RefuteTwo
noncomputable def B:Code:=(Tryd.f5.body).getD .skip
def W:List Nat:=[0,1,2,3,5,6,7,8,9,10,11,12,13,14,15,38,65]
def res (r:Bool):D×List D:=(.lit (.bool r),[])
def C (x0:drossref03_Recipe) (x1:List drossref09_Dep) (x2:(Int×Int)) (r:Bool):Prop:=Ret env 5 [.agg [.lit (.int .u8 x0.Attrs),.lit (.int .u8 x0.Gap),.sl (x0.Rows.map (eSl (eI .u8)))],.sl (x1.map enc_drossref09_Dep),.agg [.lit (.int .u8 x2.1),.lit (.int .u8 x2.2)]] (res r).1 (res r).2
def L1  (φ:Bool→Prop):Prop:=Pt env 5 W B [1,1,1,0,1,0,0] [] (Lv env 5 Tryd.f5 3 res φ)
theorem L1_step  (φ:Bool→Prop) (h :
 ∃ r15:Bool,drosslaw20_awake.C  r15 ∧
 φ r15):L1  φ:=
 mIn <|
 mCal 1 h (fun _ h=>h) fun r15 _ h=>
 (by exact mRet 2 h)
theorem enter (x0:drossref03_Recipe) (x1:List drossref09_Dep) (x2:(Int×Int)) (φ:Bool→Prop) (h :
 ∃ r4:api_Table×Bool,drossref03_Table.C x0 7 r4 ∧
 ∃ r5:Bool,drosslaw20_awake.C  r5 ∧
 (if r5=true then
 (if r4.2=true then
 (if (r4.1.Attrs.length:Int)=0 then
 drosslaw20_RefuteTwo.L1  φ
 else
 (if 6<(x1.length:Int) then
 drosslaw20_RefuteTwo.L1  φ
 else
 ∃ r6:List api_FD,drossref09_List.C ((r4.1.Attrs.length:Int)) x1 r6 ∧
 ∃ r7:Int×Int,drosslaw20_sets.C ((r4.1.Attrs.length:Int)) x2 r7 ∧
 ¬ (r4.1.Attrs.length:Int)=0 ∧
 0≤(Int.tmod (IntKind.wrap .i64 x2.2) (r4.1.Attrs.length:Int)) ∧
 ∃ r10:Bool,drossref20_Right.C r4.1 r6 ([]) r10 ∧
 (if r10=true then
 ∃ r11:Bool,drossref08_Satisfies.C r4.1 ((⟨r7.1,(shlw .u32 1 (Int.tmod (IntKind.wrap .i64 x2.2) (r4.1.Attrs.length:Int)))⟩:api_FD)) r11 ∧
 (if r11=true then
 φ true
 else
 ∃ r12:api_Table×Int,refute_FD.C ((r4.1.Attrs.length:Int)) r6 ((⟨r7.1,(shlw .u32 1 (Int.tmod (IntKind.wrap .i64 x2.2) (r4.1.Attrs.length:Int)))⟩:api_FD)) r12 ∧
 (if r12.2=0 then
 ∃ r13:Bool,drossref20_Right.C r12.1 r6 ([]) r13 ∧
 (if r13=true then
 ∃ r14:Bool,drossref08_Satisfies.C r12.1 ((⟨r7.1,(shlw .u32 1 (Int.tmod (IntKind.wrap .i64 x2.2) (r4.1.Attrs.length:Int)))⟩:api_FD)) r14 ∧
 φ ((not r14))
 else
 φ false)
 else
 φ false))
 else
 φ true)))
 else
 drosslaw20_RefuteTwo.L1  φ)
 else
 drosslaw20_RefuteTwo.L1  φ)):∃ r,φ r∧C x0 x1 x2 r:=
 mEnt (fd:=Tryd.f5) (body:=B) (V:=W) (res:=res) <|
 mCalE 7 h (fun _ h=>h) (fun (r4:api_Table×Bool)=>cold_tup rfl (fcs_cons (freeze_agg (fcs_cons rfl (fcs_cons (freeze_ow (e:=eS) (e':=eS) (fun _=>rfl) r4.1.Attrs) (fcs_cons (freeze_ow (e:=enc_api_Row) (e':=enc_api_Row_2) (fun x=>(fcs_cons rfl (fcs_cons (freeze_ow (e:=enc_api_Value) (e':=enc_api_Value) (fun _=>rfl) x.Values) fcs_nil))) r4.1.Rows) fcs_nil)))) (fcs_cons rfl fcs_nil))) (hf:=(fun _=>clF_flat (flat_tup (flts_cons (flat_agg (flts_cons rfl (flts_cons (flat_ow (e:=eS) (fun _=>rfl)) (flts_cons (flat_ow (e:=enc_api_Row) (fun _=>(flts_cons rfl (flts_cons (flat_ow (e:=enc_api_Value) (fun _=>rfl)) flts_nil)))) flts_nil)))) (flts_cons rfl flts_nil))) rfl)) fun r4 _ h=>
 mLen 10 eS r4.1.Attrs <|
 mCalB 3 h (fun _ h=>h) (fun _ h=>
 mAsk 2 h id fls (fun h=>
 mAsk 4 h beq_t beq_f (fun h=>
 mFin 8 h) fun h=>
 mLen 3 enc_drossref09_Dep x1 <|
 mAsk 0 h dT dF (fun h=>
 mFin 3 h) fun h=>
 mCal 7 h (fun _ h=>h) (hf:=(fun _=>clF_flat (flat_ow (e:=enc_api_FD) (fun _=>rfl)) rfl)) fun r6 _ h=>
 mCal 5 h (fun _ h=>h) (hf:=(fun _=>clF_flat (flat_tup (flts_cons rfl (flts_cons rfl flts_nil))) rfl)) fun r7 _ h=>
 h.elim fun h8 h=>
 mBi 12 (bin_rem (t:=3) (q:=.i64) (i1:=(IntKind.wrap .i64 x2.2)) h8) <|
 h.elim fun h9 h=>
 mBi 0 (bin_shl (t:=28) (q:=.u32) (q':=.i64) (i1:=1) h9) <|
 mCalB 7 h (fun _ h=>h) (hr:=by exact (pr_k (pr_snap (snap_ow (s:=10) (ps:=[]) (l:=r6) (e:=enc_api_FD) (e':=enc_api_FD) (fun _=>rfl) (by kernel_rfl)) (pr_k pr_nil)))) (fun _ h=>
 mCalB (A:=fun _=>φ true) 4 h (fun _ h=>h) (fun _ h=>
 (by exact mRet 6 h)) fun _ h=>
 mCalE 8 h (fun _ h=>h) (fun (r12:api_Table×Int)=>cold_tup rfl (fcs_cons (freeze_agg (fcs_cons rfl (fcs_cons (freeze_ow (e:=eS) (e':=eS) (fun _=>rfl) r12.1.Attrs) (fcs_cons (freeze_ow (e:=enc_api_Row) (e':=enc_api_Row_2) (fun x=>(fcs_cons rfl (fcs_cons (freeze_ow (e:=enc_api_Value) (e':=enc_api_Value) (fun _=>rfl) x.Values) fcs_nil))) r12.1.Rows) fcs_nil)))) (fcs_cons rfl fcs_nil))) (hr:=by exact (pr_k (pr_snap (snap_ow (s:=10) (ps:=[]) (l:=r6) (e:=enc_api_FD) (e':=enc_api_FD) (fun _=>rfl) (by kernel_rfl)) (pr_k pr_nil)))) (hf:=(fun _=>clF_flat (flat_tup (flts_cons (flat_agg (flts_cons rfl (flts_cons (flat_ow (e:=eS) (fun _=>rfl)) (flts_cons (flat_ow (e:=enc_api_Row) (fun _=>(flts_cons rfl (flts_cons (flat_ow (e:=enc_api_Value) (fun _=>rfl)) flts_nil)))) flts_nil)))) (flts_cons rfl flts_nil))) rfl)) fun r12 _ h=>
 mAsk 9 h beq_t beq_f (fun h=>
 mCalB 3 h (fun _ h=>h) (hr:=by exact (pr_k (pr_snap (snap_ow (s:=10) (ps:=[]) (l:=r6) (e:=enc_api_FD) (e':=enc_api_FD) (fun _=>rfl) (by kernel_rfl)) (pr_k pr_nil)))) (fun _ h=>
 mCal 4 h (fun _ h=>h) fun r14 _ h=>
 (by exact mRet 4 h)) fun _ h=>
 (by exact mRet 9 h)) fun h=>
 (by exact mRet 13 h)) fun _ h=>
 (by exact mRet 11 h)) fun h=>
 mFin 13 h) fun _ h=>
 mFin 16 h
end drosslaw20_RefuteTwo
end Go.Own
