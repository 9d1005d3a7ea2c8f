/- What the functions that the law reaches answer. No conditions. -/
import Derived.Test.YtbemcminbfhakaaDoorBase4
import Derived.Test.YtbemcminbfhakaaDoorOwn18
import Derived.Test.YtbemcminbfhakaaDoorBase1
import Derived.Test.YtbemcminbfhakaaDoorOwn24
set_option linter.all false
namespace Go.Own
open Go.Proofs D
set_option maxRecDepth 100000
set_option maxHeartbeats 4000000
namespace drossref02_Sub
noncomputable def B:Code:=(Tryd.f57.body).getD .skip
def W:List Nat:=[0,1,4]
def res (r:Bool):D×List D:=(.lit (.bool r),[])
def C (x0 x1:Int) (r:Bool):Prop:=Ret env 57 [.lit (.int .u32 x0),.lit (.int .u32 x1)] (res r).1 (res r).2
theorem enter (x0 x1:Int) (φ:Bool→Prop) (h :
 φ (((bAnd .u32 x0 x1) == x0))):∃ r,φ r∧C x0 x1 r:=
 mEnt (fd:=Tryd.f57) (body:=B) (V:=W) (res:=res) <|
 mRet 11 h
end drossref02_Sub
end Go.Own
namespace Go.Own
open Go.Proofs D
set_option maxRecDepth 100000
set_option maxHeartbeats 4000000
namespace drossref02_Full
noncomputable def B:Code:=(Tryd.f54.body).getD .skip
def W:List Nat:=[0,2,3,4,11]
def res (r:Int):D×List D:=(.lit (.int .u32 r),[])
def C (x0 r:Int):Prop:=Ret env 54 [.lit (.int .i64 x0)] (res r).1 (res r).2
def L1 (x0 z0 z1:Int) (φ:Int→Prop):Prop:=Pt env 54 W B [1,1,0,1,0] [(0,.lit (.int .i64 x0)),(3,.lit (.int .u32 z0)),(4,.lit (.int .i64 z1))] (Lv env 54 Tryd.f54 1 res φ)
theorem L1_step (x0 z0 z1:Int) (φ:Int→Prop) (h :
 (if z1<x0 then
 (if z1<32 then
 0≤z1 ∧
 drossref02_Full.L1 x0 ((bOr .u32 z0 (shlw .u32 1 z1))) ((IntKind.wrap .i64 (z1+1))) φ
 else
 φ z0)
 else
 φ z0)):L1 x0 z0 z1 φ:=
 mIn <|
 mAsk 4 h dT dF (fun h=>
 mAsk 2 h dT dF (fun h=>
 h.elim fun h1 h=>
 mBi 7 (bin_shl (t:=28) (q:=.u32) (q':=.i64) (i1:=1) h1) <|
 mFin 8 h) fun h=>
 mRet 8 h) fun h=>
 mRet 11 h
theorem enter (x0:Int) (φ:Int→Prop) (h :
 drossref02_Full.L1 x0 0 0 φ):∃ r,φ r∧C x0 r:=
 mEnt (fd:=Tryd.f54) (body:=B) (V:=W) (res:=res) <|
 mFin 9 h
end drossref02_Full
end Go.Own
namespace Go.Own
open Go.Proofs D
set_option maxRecDepth 100000
set_option maxHeartbeats 4000000
namespace closure_Valid
noncomputable def B:Code:=(Tryd.f38.body).getD .skip
def W:List Nat:=[0,1,4,6,12,15,16,17,18,19,29]
def res (r:Int):D×List D:=(.lit (.int .i64 r),[])
def C (x0:Int) (x1:List api_FD) (r:Int):Prop:=Ret env 38 [.lit (.int .i64 x0),.sl (x1.map enc_api_FD)] (res r).1 (res r).2
def L1 (x0:Int) (x1:List api_FD) (z0:Int) (φ:Int→Prop):Prop:=Pt env 38 W B [1,1,1,0,1,0] [(0,.lit (.int .i64 x0)),(1,.sl (x1.map enc_api_FD)),(16,.sl (x1.map enc_api_FD)),(17,.lit (.int .i64 ((x1.length:Int)))),(18,.lit (.int .i64 z0))] (Lv env 38 Tryd.f38 2 res φ)
theorem L1_step (x0:Int) (x1:List api_FD) (z0:Int) (φ:Int→Prop) (h :
 (if z0<(x1.length:Int) then
 ∃ a1,lget x1 z0=some a1 ∧
 0≤x0 ∧
 (if (shrw .u32 (bOr .u32 a1.Lhs a1.Rhs) x0)=0 then
 closure_Valid.L1 x0 x1 ((IntKind.wrap .i64 (z0+1))) φ
 else
 φ 1)
 else
 φ 0)):L1 x0 x1 z0 φ:=
 mIn <|
 mAsk 2 h dT dF (fun h=>
 mIx 4 enc_api_FD h fun a1 h2 h=>
 h.elim fun h3 h=>
 mBi 11 (bin_shr (t:=28) (q:=.u32) (q':=.i64) (i1:=(bOr .u32 a1.Lhs a1.Rhs)) h3) <|
 mAskN 0 h bne_t bne_f (fun h=>
 mRet 5 h) fun h=>
 mFin 7 h) fun h=>
 mRet 6 h
theorem enter (x0:Int) (x1:List api_FD) (φ:Int→Prop) (h :
 (if x0<0 then
 φ 7
 else
 (if 16<x0 then
 φ 7
 else
 (if 64<(x1.length:Int) then
 φ 3
 else
 closure_Valid.L1 x0 x1 0 φ)))):∃ r,φ r∧C x0 x1 r:=
 mEnt (fd:=Tryd.f38) (body:=B) (V:=W) (res:=res) <|
 mAsk 5 h dT dF (fun h=>
 mRet 9 h) fun h=>
 mAsk 2 h dT dF (fun h=>
 mRet 6 h) fun h=>
 mLen 6 enc_api_FD x1 <|
 mAsk 0 h dT dF (fun h=>
 mRet 5 h) fun h=>
 mLen 5 enc_api_FD x1 <|
 mFin 2 h
end closure_Valid
end Go.Own
namespace Go.Own
open Go.Proofs D
set_option maxRecDepth 100000
set_option maxHeartbeats 4000000
namespace drossref09_Valid
noncomputable def B:Code:=(Tryd.f43.body).getD .skip
def W:List Nat:=[0,1,4,5,6,12,15,21,41]
def res (r:Int):D×List D:=(.lit (.int .i64 r),[])
def C (x0:Int) (x1:List api_FD) (r:Int):Prop:=Ret env 43 [.lit (.int .i64 x0),.sl (x1.map enc_api_FD)] (res r).1 (res r).2
def L1 (x1:List api_FD) (r1 z0:Int) (φ:Int→Prop):Prop:=Pt env 43 W B [1,1,1,1,0,1,0] [(1,.sl (x1.map enc_api_FD)),(5,.lit (.int .u32 r1)),(6,.lit (.int .i64 z0))] (Lv env 43 Tryd.f43 2 res φ)
theorem L1_step (x1:List api_FD) (r1 z0:Int) (φ:Int→Prop) (h :
 (if z0<(x1.length:Int) then
 ∃ a2,lget x1 z0=some a2 ∧
 ∃ r4:Bool,drossref02_Sub.C a2.Lhs r1 r4 ∧
 (if r4=true then
 ∃ r5:Bool,drossref02_Sub.C a2.Rhs r1 r5 ∧
 (if r5=true then
 drossref09_Valid.L1 x1 r1 ((IntKind.wrap .i64 (z0+1))) φ
 else
 φ 1)
 else
 φ 1)
 else
 φ 0)):L1 x1 r1 z0 φ:=
 mIn <|
 mLen 4 enc_api_FD x1 <|
 mAsk 0 h dT dF (fun h=>
 mIx 6 enc_api_FD h fun a2 h3 h=>
 mCalB 3 h (fun _ h=>h) (fun _ h=>
 mIxf 4 enc_api_FD h3 <|
 mCalB 3 h (fun _ h=>h) (fun _ h=>
 mFin 10 h) fun _ h=>
 mRet 7 h) fun _ h=>
 mRet 16 h) fun h=>
 mRet 6 h
theorem enter (x0:Int) (x1:List api_FD) (φ:Int→Prop) (h :
 (if x0<0 then
 φ 7
 else
 (if 16<x0 then
 φ 7
 else
 (if 64<(x1.length:Int) then
 φ 3
 else
 ∃ r1:Int,drossref02_Full.C x0 r1 ∧
 drossref09_Valid.L1 x1 r1 0 φ)))):∃ r,φ r∧C x0 x1 r:=
 mEnt (fd:=Tryd.f43) (body:=B) (V:=W) (res:=res) <|
 mAsk 5 h dT dF (fun h=>
 mRet 9 h) fun h=>
 mAsk 2 h dT dF (fun h=>
 mRet 6 h) fun h=>
 mLen 6 enc_api_FD x1 <|
 mAsk 0 h dT dF (fun h=>
 mRet 5 h) fun h=>
 mCal 5 h (fun _ h=>h) fun r1 _ h=>
 mFin 5 h
end drossref09_Valid
end Go.Own
namespace Go.Own
open Go.Proofs D
set_option maxRecDepth 100000
set_option maxHeartbeats 4000000
namespace basis_Valid
noncomputable def B:Code:=(Tryd.f58.body).getD .skip
def W:List Nat:=[0,1,2,6,7,9,14,18,19,20,21,22,32]
def res (r:Int):D×List D:=(.lit (.int .i64 r),[])
def C (x0:Int) (x1:List api_FD) (x2:List api_MVD) (r:Int):Prop:=Ret env 58 [.lit (.int .i64 x0),.sl (x1.map enc_api_FD),.sl (x2.map enc_api_MVD)] (res r).1 (res r).2
def L1 (x0:Int) (x2:List api_MVD) (z0:Int) (φ:Int→Prop):Prop:=Pt env 58 W B [1,1,1,0,1,0] [(0,.lit (.int .i64 x0)),(2,.sl (x2.map enc_api_MVD)),(19,.sl (x2.map enc_api_MVD)),(20,.lit (.int .i64 ((x2.length:Int)))),(21,.lit (.int .i64 z0))] (Lv env 58 Tryd.f58 3 res φ)
theorem L1_step (x0:Int) (x2:List api_MVD) (z0:Int) (φ:Int→Prop) (h :
 (if z0<(x2.length:Int) then
 ∃ a2,lget x2 z0=some a2 ∧
 0≤x0 ∧
 (if (shrw .u32 (bOr .u32 a2.Lhs a2.Rhs) x0)=0 then
 basis_Valid.L1 x0 x2 ((IntKind.wrap .i64 (z0+1))) φ
 else
 φ 1)
 else
 φ 0)):L1 x0 x2 z0 φ:=
 mIn <|
 mAsk 2 h dT dF (fun h=>
 mIx 4 enc_api_MVD h fun a2 h3 h=>
 h.elim fun h4 h=>
 mBi 11 (bin_shr (t:=28) (q:=.u32) (q':=.i64) (i1:=(bOr .u32 a2.Lhs a2.Rhs)) h4) <|
 mAskN 0 h bne_t bne_f (fun h=>
 mRet 5 h) fun h=>
 mFin 7 h) fun h=>
 mRet 6 h
theorem enter (x0:Int) (x1:List api_FD) (x2:List api_MVD) (φ:Int→Prop) (h :
 ∃ r1:Int,closure_Valid.C x0 x1 r1 ∧
 (if r1=0 then
 (if 64<(x2.length:Int) then
 φ 3
 else
 basis_Valid.L1 x0 x2 0 φ)
 else
 φ r1)):∃ r,φ r∧C x0 x1 x2 r:=
 mEnt (fd:=Tryd.f58) (body:=B) (V:=W) (res:=res) <|
 mCal 6 h (fun _ h=>h) fun r1 _ h=>
 mAskN 4 h bne_t bne_f (fun h=>
 mRet 6 h) fun h=>
 mLen 5 enc_api_MVD x2 <|
 mAsk 0 h dT dF (fun h=>
 mRet 5 h) fun h=>
 mLen 5 enc_api_MVD x2 <|
 mFin 2 h
end basis_Valid
end Go.Own
namespace Go.Own
open Go.Proofs D
set_option maxRecDepth 100000
set_option maxHeartbeats 4000000
namespace drossref13_within
noncomputable def B:Code:=(Tryd.f30.body).getD .skip
def W:List Nat:=[0,1,4]
def res (r:Bool):D×List D:=(.lit (.bool r),[])
def C (x0 x1:Int) (r:Bool):Prop:=Ret env 30 [.lit (.int .i64 x0),.lit (.int .u32 x1)] (res r).1 (res r).2
theorem enter (x0 x1:Int) (φ:Bool→Prop) (h :
 ∃ r1:Int,drossref02_Full.C x0 r1 ∧
 ∃ r2:Bool,drossref02_Sub.C x1 r1 r2 ∧
 φ r2):∃ r,φ r∧C x0 x1 r:=
 mEnt (fd:=Tryd.f30) (body:=B) (V:=W) (res:=res) <|
 mCal 6 h (fun _ h=>h) fun r1 _ h=>
 mCal 0 h (fun _ h=>h) fun r2 _ h=>
 mRet 2 h
end drossref13_within
end Go.Own
namespace Go.Own
open Go.Proofs D
set_option maxRecDepth 100000
set_option maxHeartbeats 4000000
namespace drossref13_Valid
noncomputable def B:Code:=(Tryd.f29.body).getD .skip
def W:List Nat:=[0,1,2,6,7,8,13,17,21,41]
def res (r:Int):D×List D:=(.lit (.int .i64 r),[])
def C (x0:Int) (x1:List api_FD) (x2:List api_MVD) (r:Int):Prop:=Ret env 29 [.lit (.int .i64 x0),.sl (x1.map enc_api_FD),.sl (x2.map enc_api_MVD)] (res r).1 (res r).2
def L1 (x0:Int) (x2:List api_MVD) (z0:Int) (φ:Int→Prop):Prop:=Pt env 29 W B [1,1,1,0,1,0] [(0,.lit (.int .i64 x0)),(2,.sl (x2.map enc_api_MVD)),(8,.lit (.int .i64 z0))] (Lv env 29 Tryd.f29 3 res φ)
theorem L1_step (x0:Int) (x2:List api_MVD) (z0:Int) (φ:Int→Prop) (h :
 (if z0<(x2.length:Int) then
 ∃ a2,lget x2 z0=some a2 ∧
 ∃ r4:Bool,drossref13_within.C x0 a2.Lhs r4 ∧
 (if r4=true then
 ∃ r5:Bool,drossref13_within.C x0 a2.Rhs r5 ∧
 (if r5=true then
 drossref13_Valid.L1 x0 x2 ((IntKind.wrap .i64 (z0+1))) φ
 else
 φ 1)
 else
 φ 1)
 else
 φ 0)):L1 x0 x2 z0 φ:=
 mIn <|
 mLen 4 enc_api_MVD x2 <|
 mAsk 0 h dT dF (fun h=>
 mIx 7 enc_api_MVD h fun a2 h3 h=>
 mCalB 2 h (fun _ h=>h) (fun _ h=>
 mIxf 5 enc_api_MVD h3 <|
 mCalB 2 h (fun _ h=>h) (fun _ h=>
 mFin 10 h) fun _ h=>
 mRet 7 h) fun _ h=>
 mRet 16 h) fun h=>
 mRet 6 h
theorem enter (x0:Int) (x1:List api_FD) (x2:List api_MVD) (φ:Int→Prop) (h :
 ∃ r1:Int,drossref09_Valid.C x0 x1 r1 ∧
 (if r1=0 then
 (if 64<(x2.length:Int) then
 φ 3
 else
 drossref13_Valid.L1 x0 x2 0 φ)
 else
 φ r1)):∃ r,φ r∧C x0 x1 x2 r:=
 mEnt (fd:=Tryd.f29) (body:=B) (V:=W) (res:=res) <|
 mCal 6 h (fun _ h=>h) fun r1 _ h=>
 mAskN 4 h bne_t bne_f (fun h=>
 mRet 6 h) fun h=>
 mLen 5 enc_api_MVD x2 <|
 mAsk 0 h dT dF (fun h=>
 mRet 5 h) fun h=>
 mFin 6 h
end drossref13_Valid
end Go.Own
namespace Go.Own
open Go.Proofs D
set_option maxRecDepth 100000
set_option maxHeartbeats 4000000
namespace math_bits_OnesCount32
end math_bits_OnesCount32
end Go.Own
namespace Go.Own
open Go.Proofs D
set_option maxRecDepth 100000
set_option maxHeartbeats 4000000
namespace attrset_Size
end attrset_Size
end Go.Own
namespace Go.Own
open Go.Proofs D
set_option maxRecDepth 100000
set_option maxHeartbeats 4000000
namespace cmp_isNaN_api_Set
end cmp_isNaN_api_Set
end Go.Own
namespace Go.Own
open Go.Proofs D
set_option maxRecDepth 100000
set_option maxHeartbeats 4000000
namespace cmp_Compare_api_Set
end cmp_Compare_api_Set
end Go.Own
namespace Go.Own
open Go.Proofs D
set_option maxRecDepth 100000
set_option maxHeartbeats 4000000
namespace cmp_isNaN_int
end cmp_isNaN_int
end Go.Own
namespace Go.Own
open Go.Proofs D
set_option maxRecDepth 100000
set_option maxHeartbeats 4000000
namespace cmp_Compare_int
end cmp_Compare_int
end Go.Own
namespace Go.Own
open Go.Proofs D
set_option maxRecDepth 100000
set_option maxHeartbeats 4000000
namespace cmp_Or_int
end cmp_Or_int
end Go.Own
namespace Go.Own
open Go.Proofs D
set_option maxRecDepth 100000
set_option maxHeartbeats 4000000
namespace attrset_compare
def res (r:Int):D×List D:=(.lit (.int .i64 r),[])
def C (x0 x1 r:Int):Prop:=Ret env 75 [.lit (.int .u32 x0),.lit (.int .u32 x1)] (res r).1 (res r).2
end attrset_compare
end Go.Own
namespace Go.Own
open Go.Proofs D
set_option maxRecDepth 100000
set_option maxHeartbeats 4000000
namespace slices_insertionSortCmpFunc_api_Set_attrset_compare
end slices_insertionSortCmpFunc_api_Set_attrset_compare
end Go.Own
namespace Go.Own
open Go.Proofs D
set_option maxRecDepth 100000
set_option maxHeartbeats 4000000
namespace slices_siftDownCmpFunc_api_Set_attrset_compare
end slices_siftDownCmpFunc_api_Set_attrset_compare
end Go.Own
namespace Go.Own
open Go.Proofs D
set_option maxRecDepth 100000
set_option maxHeartbeats 4000000
namespace slices_heapSortCmpFunc_api_Set_attrset_compare
end slices_heapSortCmpFunc_api_Set_attrset_compare
end Go.Own
namespace Go.Own
open Go.Proofs D
set_option maxRecDepth 100000
set_option maxHeartbeats 4000000
namespace slices_partialInsertionSortCmpFunc_api_Set_attrset_compare
end slices_partialInsertionSortCmpFunc_api_Set_attrset_compare
end Go.Own
namespace Go.Own
open Go.Proofs D
set_option maxRecDepth 100000
set_option maxHeartbeats 4000000
namespace slices_partitionCmpFunc_api_Set_attrset_compare
end slices_partitionCmpFunc_api_Set_attrset_compare
end Go.Own
namespace Go.Own
open Go.Proofs D
set_option maxRecDepth 100000
set_option maxHeartbeats 4000000
namespace slices_partitionEqualCmpFunc_api_Set_attrset_compare
end slices_partitionEqualCmpFunc_api_Set_attrset_compare
end Go.Own
namespace Go.Own
open Go.Proofs D
set_option maxRecDepth 100000
set_option maxHeartbeats 4000000
namespace slices_reverseRangeCmpFunc_api_Set_attrset_compare
end slices_reverseRangeCmpFunc_api_Set_attrset_compare
end Go.Own
namespace Go.Own
open Go.Proofs D
set_option maxRecDepth 100000
set_option maxHeartbeats 4000000
namespace slices_order2CmpFunc_api_Set_attrset_compare
end slices_order2CmpFunc_api_Set_attrset_compare
end Go.Own
namespace Go.Own
open Go.Proofs D
set_option maxRecDepth 100000
set_option maxHeartbeats 4000000
namespace slices_medianCmpFunc_api_Set_attrset_compare
end slices_medianCmpFunc_api_Set_attrset_compare
end Go.Own
namespace Go.Own
open Go.Proofs D
set_option maxRecDepth 100000
set_option maxHeartbeats 4000000
namespace slices_medianAdjacentCmpFunc_api_Set_attrset_compare
end slices_medianAdjacentCmpFunc_api_Set_attrset_compare
end Go.Own
namespace Go.Own
open Go.Proofs D
set_option maxRecDepth 100000
set_option maxHeartbeats 4000000
namespace slices_choosePivotCmpFunc_api_Set_attrset_compare
end slices_choosePivotCmpFunc_api_Set_attrset_compare
end Go.Own
namespace Go.Own
open Go.Proofs D
set_option maxRecDepth 100000
set_option maxHeartbeats 4000000
namespace math_bits_Len64
end math_bits_Len64
end Go.Own
namespace Go.Own
open Go.Proofs D
set_option maxRecDepth 100000
set_option maxHeartbeats 4000000
namespace math_bits_Len
end math_bits_Len
end Go.Own
namespace Go.Own
open Go.Proofs D
set_option maxRecDepth 100000
set_option maxHeartbeats 4000000
namespace slices_nextPowerOfTwo
end slices_nextPowerOfTwo
end Go.Own
namespace Go.Own
open Go.Proofs D
set_option maxRecDepth 100000
set_option maxHeartbeats 4000000
namespace slices_xorshift_Next
end slices_xorshift_Next
end Go.Own
namespace Go.Own
open Go.Proofs D
set_option maxRecDepth 100000
set_option maxHeartbeats 4000000
namespace slices_breakPatternsCmpFunc_api_Set_attrset_compare
end slices_breakPatternsCmpFunc_api_Set_attrset_compare
end Go.Own
namespace Go.Own
open Go.Proofs D
set_option maxRecDepth 100000
set_option maxHeartbeats 4000000
namespace slices_pdqsortCmpFunc_api_Set_attrset_compare
end slices_pdqsortCmpFunc_api_Set_attrset_compare
end Go.Own
namespace Go.Own
open Go.Proofs D
set_option maxRecDepth 100000
set_option maxHeartbeats 4000000
namespace slices_SortFunc_sapi_Set_api_Set_attrset_compare
end slices_SortFunc_sapi_Set_api_Set_attrset_compare
end Go.Own
namespace Go.Own
open Go.Proofs D
set_option maxRecDepth 100000
set_option maxHeartbeats 4000000
namespace slices_Compact_sapi_Set_api_Set
end slices_Compact_sapi_Set_api_Set
end Go.Own
namespace Go.Own
open Go.Proofs D
set_option maxRecDepth 100000
set_option maxHeartbeats 4000000
namespace drossref02_Has
end drossref02_Has
end Go.Own
namespace Go.Own
open Go.Proofs D
set_option maxRecDepth 100000
set_option maxHeartbeats 4000000
namespace attrset_Order
end attrset_Order
end Go.Own
namespace Go.Own
open Go.Proofs D
set_option maxRecDepth 100000
set_option maxHeartbeats 4000000
namespace closure_Close
end closure_Close
end Go.Own
namespace Go.Own
open Go.Proofs D
set_option maxRecDepth 100000
set_option maxHeartbeats 4000000
namespace drossref09_Close
end drossref09_Close
end Go.Own
namespace Go.Own
open Go.Proofs D
set_option maxRecDepth 100000
set_option maxHeartbeats 4000000
namespace drossref01_Valid
end drossref01_Valid
end Go.Own
namespace Go.Own
open Go.Proofs D
set_option maxRecDepth 100000
set_option maxHeartbeats 4000000
namespace drossref01_Valids
end drossref01_Valids
end Go.Own
namespace Go.Own
open Go.Proofs D
set_option maxRecDepth 100000
set_option maxHeartbeats 4000000
namespace drossref03_letter
end drossref03_letter
end Go.Own
namespace Go.Own
open Go.Proofs D
set_option maxRecDepth 100000
set_option maxHeartbeats 4000000
namespace drossref03_Name
end drossref03_Name
end Go.Own
namespace Go.Own
open Go.Proofs D
set_option maxRecDepth 100000
set_option maxHeartbeats 4000000
namespace drossref03_Attr
end drossref03_Attr
end Go.Own
namespace Go.Own
open Go.Proofs D
set_option maxRecDepth 100000
set_option maxHeartbeats 4000000
namespace drossref03_Names
end drossref03_Names
end Go.Own
namespace Go.Own
open Go.Proofs D
set_option maxRecDepth 100000
set_option maxHeartbeats 4000000
namespace drossref03_Valid
def res (r:Int):D×List D:=(.lit (.int .i64 r),[])
def C (x0:api_Table) (r:Int):Prop:=Ret env 37 [.agg [.lit (.string x0.Name),.sl (x0.Attrs.map eS),.sl (x0.Rows.map enc_api_Row_2)]] (res r).1 (res r).2
end drossref03_Valid
end Go.Own
namespace Go.Own
open Go.Proofs D
set_option maxRecDepth 100000
set_option maxHeartbeats 4000000
namespace attrset_Members
end attrset_Members
end Go.Own
namespace Go.Own
open Go.Proofs D
set_option maxRecDepth 100000
set_option maxHeartbeats 4000000
namespace drossref01_sign
end drossref01_sign
end Go.Own
namespace Go.Own
open Go.Proofs D
set_option maxRecDepth 100000
set_option maxHeartbeats 4000000
namespace drossref01_strings
end drossref01_strings
end Go.Own
namespace Go.Own
open Go.Proofs D
set_option maxRecDepth 100000
set_option maxHeartbeats 4000000
namespace drossref01_Compare
end drossref01_Compare
end Go.Own
namespace Go.Own
open Go.Proofs D
set_option maxRecDepth 100000
set_option maxHeartbeats 4000000
namespace drossref01_Lists
end drossref01_Lists
end Go.Own
namespace Go.Own
open Go.Proofs D
set_option maxRecDepth 100000
set_option maxHeartbeats 4000000
namespace drossref01_Same
end drossref01_Same
end Go.Own
namespace Go.Own
open Go.Proofs D
set_option maxRecDepth 100000
set_option maxHeartbeats 4000000
namespace drossref03_Values
end drossref03_Values
end Go.Own
namespace Go.Own
open Go.Proofs D
set_option maxRecDepth 100000
set_option maxHeartbeats 4000000
namespace drossref03_Agree
end drossref03_Agree
end Go.Own
namespace Go.Own
open Go.Proofs D
set_option maxRecDepth 100000
set_option maxHeartbeats 4000000
namespace drossref09_Implies
end drossref09_Implies
end Go.Own
namespace Go.Own
open Go.Proofs D
set_option maxRecDepth 100000
set_option maxHeartbeats 4000000
namespace drossref03_EqualRows
end drossref03_EqualRows
end Go.Own
namespace Go.Own
open Go.Proofs D
set_option maxRecDepth 100000
set_option maxHeartbeats 4000000
namespace drossref03_Strings
end drossref03_Strings
end Go.Own
namespace Go.Own
open Go.Proofs D
set_option maxRecDepth 100000
set_option maxHeartbeats 4000000
namespace drossref03_Equal
def res (r:Bool):D×List D:=(.lit (.bool r),[])
def C (x0 x1:api_Table) (r:Bool):Prop:=Ret env 17 [.agg [.lit (.string x0.Name),.sl (x0.Attrs.map eS),.sl (x0.Rows.map enc_api_Row_2)],.agg [.lit (.string x1.Name),.sl (x1.Attrs.map eS),.sl (x1.Rows.map enc_api_Row_2)]] (res r).1 (res r).2
end drossref03_Equal
end Go.Own
namespace Go.Own
open Go.Proofs D
set_option maxRecDepth 100000
set_option maxHeartbeats 4000000
namespace drossref08_Satisfies
def res (r:Bool):D×List D:=(.lit (.bool r),[])
def C (x0:api_Table) (x1:api_FD) (r:Bool):Prop:=Ret env 19 [.agg [.lit (.string x0.Name),.sl (x0.Attrs.map eS),.sl (x0.Rows.map enc_api_Row_2)],.agg [.lit (.int .u32 x1.Lhs),.lit (.int .u32 x1.Rhs)]] (res r).1 (res r).2
end drossref08_Satisfies
end Go.Own
namespace Go.Own
open Go.Proofs D
set_option maxRecDepth 100000
set_option maxHeartbeats 4000000
namespace closure_Implies
end closure_Implies
end Go.Own
namespace Go.Own
open Go.Proofs D
set_option maxRecDepth 100000
set_option maxHeartbeats 4000000
namespace refute_build
end refute_build
end Go.Own
namespace Go.Own
open Go.Proofs D
set_option maxRecDepth 100000
set_option maxHeartbeats 4000000
namespace refute_within
noncomputable def B:Code:=(Tryd.f39.body).getD .skip
def W:List Nat:=[0,1,4]
def res (r:Bool):D×List D:=(.lit (.bool r),[])
def C (x0 x1:Int) (r:Bool):Prop:=Ret env 39 [.lit (.int .i64 x0),.lit (.int .u32 x1)] (res r).1 (res r).2
theorem enter (x0 x1:Int) (φ:Bool→Prop) (h :
 0≤x0 ∧
 φ (((shrw .u64 (IntKind.wrap .u64 x1) x0) == 0))):∃ r,φ r∧C x0 x1 r:=
 mEnt (fd:=Tryd.f39) (body:=B) (V:=W) (res:=res) <|
 h.elim fun h1 h=>
 mBi 7 (bin_shr (t:=117) (q:=.u64) (q':=.i64) (i1:=(IntKind.wrap .u64 x1)) h1) <|
 mRet 3 h
end refute_within
end Go.Own
namespace Go.Own
open Go.Proofs D
set_option maxRecDepth 100000
set_option maxHeartbeats 4000000
namespace refute_FD
def res (r:api_Table×Int):D×List D:=(.tup [.agg [.lit (.string r.1.Name),.own (r.1.Attrs.map eS),.own (r.1.Rows.map enc_api_Row)],.lit (.int .i64 r.2)],[])
def C (x0:Int) (x1:List api_FD) (x2:api_FD) (r:api_Table×Int):Prop:=Ret env 15 [.lit (.int .i64 x0),.sl (x1.map enc_api_FD),.agg [.lit (.int .u32 x2.Lhs),.lit (.int .u32 x2.Rhs)]] (res r).1 (res r).2
end refute_FD
end Go.Own
namespace Go.Own
open Go.Proofs D
set_option maxRecDepth 100000
set_option maxHeartbeats 4000000
namespace drossref20_number
end drossref20_number
end Go.Own
namespace Go.Own
open Go.Proofs D
set_option maxRecDepth 100000
set_option maxHeartbeats 4000000
namespace drossref20_within
noncomputable def B:Code:=(Tryd.f44.body).getD .skip
def W:List Nat:=[0,1,2,6]
def res (r:Bool):D×List D:=(.lit (.bool r),[])
def C (x0 x1 x2:Int) (r:Bool):Prop:=Ret env 44 [.lit (.int .i64 x0),.lit (.int .u32 x1),.lit (.int .u32 x2)] (res r).1 (res r).2
theorem enter (x0 x1 x2:Int) (φ:Bool→Prop) (h :
 ∃ r1:Int,drossref02_Full.C x0 r1 ∧
 ∃ r2:Bool,drossref02_Sub.C ((bOr .u32 x1 x2)) r1 r2 ∧
 φ r2):∃ r,φ r∧C x0 x1 x2 r:=
 mEnt (fd:=Tryd.f44) (body:=B) (V:=W) (res:=res) <|
 mCal 8 h (fun _ h=>h) fun r1 _ h=>
 mCal 0 h (fun _ h=>h) fun r2 _ h=>
 mRet 2 h
end drossref20_within
end Go.Own
namespace Go.Own
open Go.Proofs D
set_option maxRecDepth 100000
set_option maxHeartbeats 4000000
namespace drossref20_FD
def res (r:api_Table×Int):D×List D:=(.tup [.agg [.lit (.string r.1.Name),.own (r.1.Attrs.map eS),.own (r.1.Rows.map enc_api_Row)],.lit (.int .i64 r.2)],[])
def C (x0:Int) (x1:List api_FD) (x2:api_FD) (r:api_Table×Int):Prop:=Ret env 16 [.lit (.int .i64 x0),.sl (x1.map enc_api_FD),.agg [.lit (.int .u32 x2.Lhs),.lit (.int .u32 x2.Rhs)]] (res r).1 (res r).2
end drossref20_FD
end Go.Own
namespace Go.Own
open Go.Proofs D
set_option maxRecDepth 100000
set_option maxHeartbeats 4000000
namespace drossref13_mixed
end drossref13_mixed
end Go.Own
namespace Go.Own
open Go.Proofs D
set_option maxRecDepth 100000
set_option maxHeartbeats 4000000
namespace drossref13_Holds
end drossref13_Holds
end Go.Own
namespace Go.Own
open Go.Proofs D
set_option maxRecDepth 100000
set_option maxHeartbeats 4000000
namespace drossref20_Right
def res (r:Bool):D×List D:=(.lit (.bool r),[])
def C (x0:api_Table) (x1:List api_FD) (x2:List api_MVD) (r:Bool):Prop:=Ret env 18 [.agg [.lit (.string x0.Name),.sl (x0.Attrs.map eS),.sl (x0.Rows.map enc_api_Row_2)],.sl (x1.map enc_api_FD),.sl (x2.map enc_api_MVD)] (res r).1 (res r).2
end drossref20_Right
end Go.Own
namespace Go.Own
open Go.Proofs D
set_option maxRecDepth 100000
set_option maxHeartbeats 4000000
namespace refute_limits
noncomputable def B:Code:=(Tryd.f55.body).getD .skip
def W:List Nat:=[0,1,2,3,4,10,11,17,20,26]
def res (r:Int):D×List D:=(.lit (.int .i64 r),[])
def C (x0:Int) (x1:List api_FD) (x2:List api_MVD) (x3 x4 r:Int):Prop:=Ret env 55 [.lit (.int .i64 x0),.sl (x1.map enc_api_FD),.sl (x2.map enc_api_MVD),.lit (.int .u32 x3),.lit (.int .u32 x4)] (res r).1 (res r).2
theorem enter (x0:Int) (x1:List api_FD) (x2:List api_MVD) (x3 x4:Int) (φ:Int→Prop) (h :
 ∃ r1:Int,basis_Valid.C x0 x1 x2 r1 ∧
 (if r1=0 then
 (if 8<x0 then
 φ 3
 else
 ∃ r2:Bool,refute_within.C x0 ((bOr .u32 x3 x4)) r2 ∧
 (if r2=true then
 φ 0
 else
 φ 1))
 else
 φ r1)):∃ r,φ r∧C x0 x1 x2 x3 x4 r:=
 mEnt (fd:=Tryd.f55) (body:=B) (V:=W) (res:=res) <|
 mCal 7 h (fun _ h=>h) fun r1 _ h=>
 mAskN 4 h bne_t bne_f (fun h=>
 mRet 6 h) fun h=>
 mAsk 5 h dT dF (fun h=>
 mRet 5 h) fun h=>
 mCalB 8 h (fun _ h=>h) (fun _ h=>
 mRet 7 h) fun _ h=>
 mRet 6 h
end refute_limits
end Go.Own
namespace Go.Own
open Go.Proofs D
set_option maxRecDepth 100000
set_option maxHeartbeats 4000000
namespace refute_Mixed
noncomputable def B:Code:=(Tryd.f24.body).getD .skip
def W:List Nat:=[0,1,2,3,7,8,9,10,11,12,22,33]
def res (r:api_Table×Int):D×List D:=(.tup [.agg [.lit (.string r.1.Name),.own (r.1.Attrs.map eS),.own (r.1.Rows.map enc_api_Row)],.lit (.int .i64 r.2)],[])
def C (x0:Int) (x1:List api_FD) (x2:List api_MVD) (x3:api_FD) (r:api_Table×Int):Prop:=Ret env 24 [.lit (.int .i64 x0),.sl (x1.map enc_api_FD),.sl (x2.map enc_api_MVD),.agg [.lit (.int .u32 x3.Lhs),.lit (.int .u32 x3.Rhs)]] (res r).1 (res r).2
theorem enter (x0:Int) (x1:List api_FD) (x2:List api_MVD) (x3:api_FD) (φ:api_Table×Int→Prop) (h :
 ∃ r1:Int,refute_limits.C x0 x1 x2 x3.Lhs x3.Rhs r1 ∧
 (if r1=0 then
 False
 else
 φ (((⟨(⟨#[]⟩:ByteArray),[],[]⟩:api_Table),r1)))):∃ r,φ r∧C x0 x1 x2 x3 r:=
 mEnt (fd:=Tryd.f24) (body:=B) (V:=W) (res:=res) <|
 mCal 13 h (fun _ h=>h) fun r1 _ h=>
 mAskN 4 h bne_t bne_f (fun h=>
 mRet 8 h) fun h=>
 h.elim
end refute_Mixed
end Go.Own
namespace Go.Own
open Go.Proofs D
set_option maxRecDepth 100000
set_option maxHeartbeats 4000000
namespace drosslaw20_awake
noncomputable def B:Code:=(Tryd.f14.body).getD .skip
def W:List Nat:=[0,1,2,3,4,5,6,7,8,9,10]
def res (r:Bool):D×List D:=(.lit (.bool r),[])
def C  (r:Bool):Prop:=Ret env 14 [] (res r).1 (res r).2
theorem enter  (φ:Bool→Prop) (h :
 ∃ r1:api_Table×Int,refute_FD.C 3 ([(⟨1,2⟩:api_FD)]) ((⟨1,4⟩:api_FD)) r1 ∧
 ∃ r2:api_Table×Int,drossref20_FD.C 3 ([(⟨1,2⟩:api_FD)]) ((⟨1,4⟩:api_FD)) r2 ∧
 ∃ r3:api_Table×Int,refute_Mixed.C 3 ([]) ([(⟨1,2⟩:api_MVD)]) ((⟨1,2⟩:api_FD)) r3 ∧
 ∃ r4:api_Table×Int,refute_FD.C 3 ([(⟨1,2⟩:api_FD)]) ((⟨5,2⟩:api_FD)) r4 ∧
 (if r1.2=0 then
 ∃ r5:Bool,drossref03_Equal.C r1.1 r2.1 r5 ∧
 (if r5=true then
 (if (r2.1.Rows.length:Int)=2 then
 (if r3.2=0 then
 ∃ r6:Int,drossref03_Valid.C r3.1 r6 ∧
 (if r6=0 then
 (if (r3.1.Attrs.length:Int)=3 then
 ∃ r7:Bool,drossref20_Right.C r3.1 ([]) ([(⟨1,2⟩:api_MVD)]) r7 ∧
 (if r7=true then
 ∃ r8:Bool,drossref08_Satisfies.C r3.1 ((⟨1,2⟩:api_FD)) r8 ∧
 (if r8=true then
 φ false
 else
 φ ((r4.2 == 10)))
 else
 φ false)
 else
 φ false)
 else
 φ false)
 else
 φ false)
 else
 φ false)
 else
 φ false)
 else
 φ false)):∃ r,φ r∧C  r:=
 mEnt (fd:=Tryd.f14) (body:=B) (V:=W) (res:=res) <|
 mCal 11 h (fun _ h=>h) (hr:=by exact (pr_k (pr_snap (snap_ow (s:=1) (ps:=[]) (l:=[(⟨1,2⟩:api_FD)]) (e:=enc_api_FD) (e':=enc_api_FD) (fun _=>rfl) (by kernel_rfl)) (pr_k pr_nil)))) (hf:=(fun _=>clF_flat (flat_tup (flts_cons (flat_agg (flts_cons rfl (flts_cons (flat_ow (e:=eS) (fun _=>rfl)) (flts_cons (flat_ow (e:=enc_api_Row) (fun _=>(flts_cons rfl (flts_cons (flat_ow (e:=enc_api_Value) (fun _=>rfl)) flts_nil)))) flts_nil)))) (flts_cons rfl flts_nil))) rfl)) fun r1 _ h=>
 mCal 10 h (fun _ h=>h) (hr:=by exact (pr_k (pr_snap (snap_ow (s:=1) (ps:=[]) (l:=[(⟨1,2⟩:api_FD)]) (e:=enc_api_FD) (e':=enc_api_FD) (fun _=>rfl) (by kernel_rfl)) (pr_k pr_nil)))) (hf:=(fun _=>clF_flat (flat_tup (flts_cons (flat_agg (flts_cons rfl (flts_cons (flat_ow (e:=eS) (fun _=>rfl)) (flts_cons (flat_ow (e:=enc_api_Row) (fun _=>(flts_cons rfl (flts_cons (flat_ow (e:=enc_api_Value) (fun _=>rfl)) flts_nil)))) flts_nil)))) (flts_cons rfl flts_nil))) rfl)) fun r2 _ h=>
 mCal 15 h (fun _ h=>h) (hr:=by exact (pr_k (pr_k (pr_snap (snap_ow (s:=6) (ps:=[]) (l:=[(⟨1,2⟩:api_MVD)]) (e:=enc_api_MVD) (e':=enc_api_MVD) (fun _=>rfl) (by kernel_rfl)) (pr_k pr_nil))))) (hf:=(fun _=>clF_flat (flat_tup (flts_cons (flat_agg (flts_cons rfl (flts_cons (flat_ow (e:=eS) (fun _=>rfl)) (flts_cons (flat_ow (e:=enc_api_Row) (fun _=>(flts_cons rfl (flts_cons (flat_ow (e:=enc_api_Value) (fun _=>rfl)) flts_nil)))) flts_nil)))) (flts_cons rfl flts_nil))) rfl)) fun r3 _ h=>
 mCal 10 h (fun _ h=>h) (hr:=by exact (pr_k (pr_snap (snap_ow (s:=1) (ps:=[]) (l:=[(⟨1,2⟩:api_FD)]) (e:=enc_api_FD) (e':=enc_api_FD) (fun _=>rfl) (by kernel_rfl)) (pr_k pr_nil)))) (hf:=(fun _=>clF_flat (flat_tup (flts_cons (flat_agg (flts_cons rfl (flts_cons (flat_ow (e:=eS) (fun _=>rfl)) (flts_cons (flat_ow (e:=enc_api_Row) (fun _=>(flts_cons rfl (flts_cons (flat_ow (e:=enc_api_Value) (fun _=>rfl)) flts_nil)))) flts_nil)))) (flts_cons rfl flts_nil))) rfl)) fun r4 _ h=>
 mAsk 9 h beq_t beq_f (fun h=>
 mCalB 3 h (fun _ h=>h) (hr:=by exact (pr_snap (snap_agg (snaps_cons (d:=.lit (.string r1.1.Name)) (d':=.lit (.string r1.1.Name)) (by kernel_rfl) (snaps_cons (d:=.alias 2 [(0,1)]) (d':=.sl (r1.1.Attrs.map eS)) (snap_ow (s:=2) (ps:=[(0,1)]) (l:=r1.1.Attrs) (e:=eS) (e':=eS) (fun _=>rfl) (by kernel_rfl)) (snaps_cons (d:=.alias 2 [(0,2)]) (d':=.sl (r1.1.Rows.map enc_api_Row_2)) (snap_ow (s:=2) (ps:=[(0,2)]) (l:=r1.1.Rows) (e:=enc_api_Row) (e':=enc_api_Row_2) (fun x=>(fcs_cons rfl (fcs_cons (freeze_ow (e:=enc_api_Value) (e':=enc_api_Value) (fun _=>rfl) x.Values) fcs_nil))) (by kernel_rfl)) snaps_nil)))) (pr_snap (snap_agg (snaps_cons (d:=.lit (.string r2.1.Name)) (d':=.lit (.string r2.1.Name)) (by kernel_rfl) (snaps_cons (d:=.alias 4 [(0,1)]) (d':=.sl (r2.1.Attrs.map eS)) (snap_ow (s:=4) (ps:=[(0,1)]) (l:=r2.1.Attrs) (e:=eS) (e':=eS) (fun _=>rfl) (by kernel_rfl)) (snaps_cons (d:=.alias 4 [(0,2)]) (d':=.sl (r2.1.Rows.map enc_api_Row_2)) (snap_ow (s:=4) (ps:=[(0,2)]) (l:=r2.1.Rows) (e:=enc_api_Row) (e':=enc_api_Row_2) (fun x=>(fcs_cons rfl (fcs_cons (freeze_ow (e:=enc_api_Value) (e':=enc_api_Value) (fun _=>rfl) x.Values) fcs_nil))) (by kernel_rfl)) snaps_nil)))) pr_nil))) (fun _ h=>
 mLen 4 enc_api_Row r2.1.Rows <|
 mAsk 0 h beq_t beq_f (fun h=>
 mAsk 3 h beq_t beq_f (fun h=>
 mCal 3 h (fun _ h=>h) (hr:=by exact (pr_snap (snap_agg (snaps_cons (d:=.lit (.string r3.1.Name)) (d':=.lit (.string r3.1.Name)) (by kernel_rfl) (snaps_cons (d:=.alias 7 [(0,1)]) (d':=.sl (r3.1.Attrs.map eS)) (snap_ow (s:=7) (ps:=[(0,1)]) (l:=r3.1.Attrs) (e:=eS) (e':=eS) (fun _=>rfl) (by kernel_rfl)) (snaps_cons (d:=.alias 7 [(0,2)]) (d':=.sl (r3.1.Rows.map enc_api_Row_2)) (snap_ow (s:=7) (ps:=[(0,2)]) (l:=r3.1.Rows) (e:=enc_api_Row) (e':=enc_api_Row_2) (fun x=>(fcs_cons rfl (fcs_cons (freeze_ow (e:=enc_api_Value) (e':=enc_api_Value) (fun _=>rfl) x.Values) fcs_nil))) (by kernel_rfl)) snaps_nil)))) pr_nil)) fun r6 _ h=>
 mAsk 0 h beq_t beq_f (fun h=>
 mLen 4 eS r3.1.Attrs <|
 mAsk 0 h beq_t beq_f (fun h=>
 mCalB 4 h (fun _ h=>h) (hr:=by exact (pr_snap (snap_agg (snaps_cons (d:=.lit (.string r3.1.Name)) (d':=.lit (.string r3.1.Name)) (by kernel_rfl) (snaps_cons (d:=.alias 7 [(0,1)]) (d':=.sl (r3.1.Attrs.map eS)) (snap_ow (s:=7) (ps:=[(0,1)]) (l:=r3.1.Attrs) (e:=eS) (e':=eS) (fun _=>rfl) (by kernel_rfl)) (snaps_cons (d:=.alias 7 [(0,2)]) (d':=.sl (r3.1.Rows.map enc_api_Row_2)) (snap_ow (s:=7) (ps:=[(0,2)]) (l:=r3.1.Rows) (e:=enc_api_Row) (e':=enc_api_Row_2) (fun x=>(fcs_cons rfl (fcs_cons (freeze_ow (e:=enc_api_Value) (e':=enc_api_Value) (fun _=>rfl) x.Values) fcs_nil))) (by kernel_rfl)) snaps_nil)))) (pr_k (pr_snap (snap_ow (s:=6) (ps:=[]) (l:=[(⟨1,2⟩:api_MVD)]) (e:=enc_api_MVD) (e':=enc_api_MVD) (fun _=>rfl) (by kernel_rfl)) pr_nil)))) (fun _ h=>
 mCalB 4 h (fun _ h=>h) (hr:=by exact (pr_snap (snap_agg (snaps_cons (d:=.lit (.string r3.1.Name)) (d':=.lit (.string r3.1.Name)) (by kernel_rfl) (snaps_cons (d:=.alias 7 [(0,1)]) (d':=.sl (r3.1.Attrs.map eS)) (snap_ow (s:=7) (ps:=[(0,1)]) (l:=r3.1.Attrs) (e:=eS) (e':=eS) (fun _=>rfl) (by kernel_rfl)) (snaps_cons (d:=.alias 7 [(0,2)]) (d':=.sl (r3.1.Rows.map enc_api_Row_2)) (snap_ow (s:=7) (ps:=[(0,2)]) (l:=r3.1.Rows) (e:=enc_api_Row) (e':=enc_api_Row_2) (fun x=>(fcs_cons rfl (fcs_cons (freeze_ow (e:=enc_api_Value) (e':=enc_api_Value) (fun _=>rfl) x.Values) fcs_nil))) (by kernel_rfl)) snaps_nil)))) (pr_k pr_nil))) (fun _ h=>
 mRet 8 h) fun _ h=>
 mRet 8 h) fun _ h=>
 mRet 13 h) fun h=>
 mRet 18 h) fun h=>
 mRet 24 h) fun h=>
 mRet 29 h) fun h=>
 mRet 33 h) fun _ h=>
 mRet 39 h) fun h=>
 mRet 43 h
end drosslaw20_awake
end Go.Own
namespace Go.Own
set_option maxRecDepth 1000000
def exV (k:Int):api_Value:=⟨1,k,⟨#[]⟩⟩
def exT (rows:List api_Row):api_Table:=⟨⟨#[116]⟩,[⟨#[97]⟩,⟨#[98]⟩,⟨#[99]⟩],rows⟩
def exA:api_Table:=exT [⟨1,[exV 0,exV 0,exV 0]⟩,⟨2,[exV 0,exV 0,exV 1]⟩]
def exB20:api_Table:=exT [⟨1,[exV 0,exV 0,exV 0]⟩,⟨2,[exV 0,exV 1,exV 1]⟩,⟨3,[exV 0,exV 0,exV 1]⟩,⟨4,[exV 0,exV 1,exV 0]⟩]
theorem ex20a:refute_FD.C 3 [⟨1,2⟩] ⟨1,4⟩ (exA,0):=Ret.of (n:=300) (by kernel_rfl)
theorem ex20b:drossref20_FD.C 3 [⟨1,2⟩] ⟨1,4⟩ (exA,0):=Ret.of (n:=300) (by kernel_rfl)
theorem ex20c:refute_Mixed.C 3 [] [⟨1,2⟩] ⟨1,2⟩ (exB20,0):=Ret.of (n:=300) (by kernel_rfl)
theorem ex20d:refute_FD.C 3 [⟨1,2⟩] ⟨5,2⟩ (⟨⟨#[]⟩,[],[]⟩,10):=Ret.of (n:=300) (by kernel_rfl)
theorem ex20e:drossref03_Equal.C exA exA true:=Ret.of (n:=300) (by kernel_rfl)
theorem ex20f:drossref03_Valid.C exB20 0:=Ret.of (n:=300) (by kernel_rfl)
theorem ex20g:drossref20_Right.C exB20 [] [⟨1,2⟩] true:=Ret.of (n:=300) (by kernel_rfl)
theorem ex20h:drossref08_Satisfies.C exB20 ⟨1,2⟩ false:=Ret.of (n:=300) (by kernel_rfl)
theorem ite_in {c a b:Prop} [Decidable c] (h:c) (k:a):if c then a else b:=by rwa [if_pos h]
theorem ite_out {c a b:Prop} [Decidable c] (h:¬ c) (k:b):if c then a else b:=by rwa [if_neg h]
theorem drosslaw20_awake.spec:drosslaw20_awake.C true:=by
 obtain ⟨r,h1,h2⟩:=drosslaw20_awake.enter (fun r=>r=true) (by
  refine ⟨_,ex20a,_,ex20b,_,ex20c,_,ex20d,?_⟩
  refine ite_in rfl ⟨_,ex20e,?_⟩
  refine ite_in rfl (ite_in rfl (ite_in rfl ⟨_,ex20f,?_⟩))
  refine ite_in rfl (ite_in rfl ⟨_,ex20g,?_⟩)
  refine ite_in rfl ⟨_,ex20h,?_⟩
  exact ite_out (by decide) rfl)
 subst h1;exact h2
end Go.Own
namespace Go.Own
open Go.Proofs D
set_option maxRecDepth 100000
set_option maxHeartbeats 4000000
namespace refute_MVD
noncomputable def B:Code:=(Tryd.f25.body).getD .skip
def W:List Nat:=[0,1,2,3,7,8,9,10,11,12,22,33]
def res (r:api_Table×Int):D×List D:=(.tup [.agg [.lit (.string r.1.Name),.own (r.1.Attrs.map eS),.own (r.1.Rows.map enc_api_Row)],.lit (.int .i64 r.2)],[])
def C (x0:Int) (x1:List api_FD) (x2:List api_MVD) (x3:api_MVD) (r:api_Table×Int):Prop:=Ret env 25 [.lit (.int .i64 x0),.sl (x1.map enc_api_FD),.sl (x2.map enc_api_MVD),.agg [.lit (.int .u32 x3.Lhs),.lit (.int .u32 x3.Rhs)]] (res r).1 (res r).2
theorem enter (x0:Int) (x1:List api_FD) (x2:List api_MVD) (x3:api_MVD) (φ:api_Table×Int→Prop) (h :
 ∃ r1:Int,refute_limits.C x0 x1 x2 x3.Lhs x3.Rhs r1 ∧
 (if r1=0 then
 False
 else
 φ (((⟨(⟨#[]⟩:ByteArray),[],[]⟩:api_Table),r1)))):∃ r,φ r∧C x0 x1 x2 x3 r:=
 mEnt (fd:=Tryd.f25) (body:=B) (V:=W) (res:=res) <|
 mCal 13 h (fun _ h=>h) fun r1 _ h=>
 mAskN 4 h bne_t bne_f (fun h=>
 mRet 8 h) fun h=>
 h.elim
end refute_MVD
end Go.Own
namespace Go.Own
open Go.Proofs D
set_option maxRecDepth 100000
set_option maxHeartbeats 4000000
namespace drossref20_Error
noncomputable def B:Code:=(Tryd.f23.body).getD .skip
def W:List Nat:=[0,1,2,3,4,10,11,17,20,25]
def res (r:Int):D×List D:=(.lit (.int .i64 r),[])
def C (x0:Int) (x1:List api_FD) (x2:List api_MVD) (x3 x4 r:Int):Prop:=Ret env 23 [.lit (.int .i64 x0),.sl (x1.map enc_api_FD),.sl (x2.map enc_api_MVD),.lit (.int .u32 x3),.lit (.int .u32 x4)] (res r).1 (res r).2
theorem enter (x0:Int) (x1:List api_FD) (x2:List api_MVD) (x3 x4:Int) (φ:Int→Prop) (h :
 ∃ r1:Int,drossref13_Valid.C x0 x1 x2 r1 ∧
 (if r1=0 then
 (if 8<x0 then
 φ 3
 else
 ∃ r2:Bool,drossref20_within.C x0 x3 x4 r2 ∧
 (if r2=true then
 φ 0
 else
 φ 1))
 else
 φ r1)):∃ r,φ r∧C x0 x1 x2 x3 x4 r:=
 mEnt (fd:=Tryd.f23) (body:=B) (V:=W) (res:=res) <|
 mCal 7 h (fun _ h=>h) fun r1 _ h=>
 mAskN 4 h bne_t bne_f (fun h=>
 mRet 6 h) fun h=>
 mAsk 5 h dT dF (fun h=>
 mRet 5 h) fun h=>
 mCalB 7 h (fun _ h=>h) (fun _ h=>
 mRet 7 h) fun _ h=>
 mRet 6 h
end drossref20_Error
end Go.Own
namespace Go.Own
open Go.Proofs D
set_option maxRecDepth 100000
set_option maxHeartbeats 4000000
namespace drosslaw20_RefuteErrors
noncomputable def B:Code:=(Tryd.f6.body).getD .skip
def W:List Nat:=[0,1,2,4,5,6,7,9,10,11,12,13,14,28,31,32,33,34,56]
def res (r:Bool):D×List D:=(.lit (.bool r),[])
def C (x0:Int) (x1:(List api_FD×List api_FD)) (x2:api_FD) (r:Bool):Prop:=Ret env 6 [.lit (.int .i64 x0),.agg [.sl (x1.1.map enc_api_FD),.sl (x1.2.map enc_api_FD)],.agg [.lit (.int .u32 x2.Lhs),.lit (.int .u32 x2.Rhs)]] (res r).1 (res r).2
def L1  (φ:Bool→Prop):Prop:=Pt env 6 W B [1,0,1,0,0] [] (Lv env 6 Tryd.f6 3 res φ)
def L2 (x0:Int) (x1:(List api_FD×List api_FD)) (x2:api_FD) (z0:List api_MVD) (z1:Int) (φ:Bool→Prop):Prop:=Pt env 6 W B [1,1,1,0,1,0] [(0,.lit (.int .i64 x0)),(1,.agg [.sl (x1.1.map enc_api_FD),.sl (x1.2.map enc_api_FD)]),(2,.agg [.lit (.int .u32 x2.Lhs),.lit (.int .u32 x2.Rhs)]),(4,.box [.sl (x1.1.map enc_api_FD),.sl (x1.2.map enc_api_FD)]),(5,.box [.lit (.int .u32 x2.Lhs),.lit (.int .u32 x2.Rhs)]),(7,.own (z0.map enc_api_MVD)),(31,.sl (x1.2.map enc_api_FD)),(32,.lit (.int .i64 ((x1.2.length:Int)))),(33,.lit (.int .i64 z1))] (Lv env 6 Tryd.f6 3 res φ)
theorem L1_step  (φ:Bool→Prop) (h :
 ∃ r14:Bool,drosslaw20_awake.C  r14 ∧
 φ r14):L1  φ:=
 mIn <|
 mCal 1 h (fun _ h=>h) fun r14 _ h=>
 mRet 2 h
theorem L2_step (x0:Int) (x1:(List api_FD×List api_FD)) (x2:api_FD) (z0:List api_MVD) (z1:Int) (φ:Bool→Prop) (h :
 (if z1<(x1.2.length:Int) then
 ∃ a15,lget x1.2 z1=some a15 ∧
 (z0.length+1)*8≤140737488355328 ∧
 drosslaw20_RefuteErrors.L2 x0 x1 x2 ((z0++[(⟨a15.Lhs,a15.Rhs⟩:api_MVD)])) ((IntKind.wrap .i64 (z1+1))) φ
 else
 ∃ r18:Int,drossref20_Error.C x0 x1.1 z0 x2.Lhs x2.Rhs r18 ∧
 (if r18=0 then
 φ true
 else
 ∃ r19:api_Table×Int,refute_Mixed.C x0 x1.1 z0 x2 r19 ∧
 ∃ r20:api_Table×Int,refute_MVD.C x0 x1.1 z0 ((⟨x2.Lhs,x2.Rhs⟩:api_MVD)) r20 ∧
 (if r19.2=r18 then
 (if r20.2=r18 then
 φ (((IntKind.wrap .i64 ((r19.1.Rows.length:Int)+(r20.1.Rows.length:Int))) == 0))
 else
 φ false)
 else
 φ false)))):L2 x0 x1 x2 z0 z1 φ:=
 mIn <|
 mAsk 2 h dT dF (fun h=>
 mIx 4 enc_api_FD h fun a15 h16 h=>
 mApp 12 enc_api_MVD z0 ([(⟨a15.Lhs,a15.Rhs⟩:api_MVD)]) h fun h=>
 mFin 6 h) fun h=>
 mCal 12 h (fun _ h=>h) (hr:=by exact (pr_k (pr_k (pr_snap (snap_ow (s:=7) (ps:=[]) (l:=z0) (e:=enc_api_MVD) (e':=enc_api_MVD) (fun _=>rfl) (by kernel_rfl)) (pr_k (pr_k pr_nil)))))) fun r18 _ h=>
 mAsk 4 h beq_t beq_f (fun h=>
 mRet 5 h) fun h=>
 mCalE 9 h (fun _ h=>h) (fun (r19:api_Table×Int)=>cold_tup rfl (fcs_cons (freeze_agg (fcs_cons rfl (fcs_cons (freeze_ow (e:=eS) (e':=eS) (fun _=>rfl) r19.1.Attrs) (fcs_cons (freeze_ow (e:=enc_api_Row) (e':=enc_api_Row_2) (fun x=>(fcs_cons rfl (fcs_cons (freeze_ow (e:=enc_api_Value) (e':=enc_api_Value) (fun _=>rfl) x.Values) fcs_nil))) r19.1.Rows) fcs_nil)))) (fcs_cons rfl fcs_nil))) (hr:=by exact (pr_k (pr_k (pr_snap (snap_ow (s:=7) (ps:=[]) (l:=z0) (e:=enc_api_MVD) (e':=enc_api_MVD) (fun _=>rfl) (by kernel_rfl)) (pr_k pr_nil))))) (hf:=(fun _=>clF_flat (flat_tup (flts_cons (flat_agg (flts_cons rfl (flts_cons (flat_ow (e:=eS) (fun _=>rfl)) (flts_cons (flat_ow (e:=enc_api_Row) (fun _=>(flts_cons rfl (flts_cons (flat_ow (e:=enc_api_Value) (fun _=>rfl)) flts_nil)))) flts_nil)))) (flts_cons rfl flts_nil))) rfl)) fun r19 _ h=>
 mCalE 17 h (fun _ h=>h) (fun (r20:api_Table×Int)=>cold_tup rfl (fcs_cons (freeze_agg (fcs_cons rfl (fcs_cons (freeze_ow (e:=eS) (e':=eS) (fun _=>rfl) r20.1.Attrs) (fcs_cons (freeze_ow (e:=enc_api_Row) (e':=enc_api_Row_2) (fun x=>(fcs_cons rfl (fcs_cons (freeze_ow (e:=enc_api_Value) (e':=enc_api_Value) (fun _=>rfl) x.Values) fcs_nil))) r20.1.Rows) fcs_nil)))) (fcs_cons rfl fcs_nil))) (hr:=by exact (pr_k (pr_k (pr_snap (snap_ow (s:=7) (ps:=[]) (l:=z0) (e:=enc_api_MVD) (e':=enc_api_MVD) (fun _=>rfl) (by kernel_rfl)) (pr_k pr_nil))))) (hf:=(fun _=>clF_flat (flat_tup (flts_cons (flat_agg (flts_cons rfl (flts_cons (flat_ow (e:=eS) (fun _=>rfl)) (flts_cons (flat_ow (e:=enc_api_Row) (fun _=>(flts_cons rfl (flts_cons (flat_ow (e:=enc_api_Value) (fun _=>rfl)) flts_nil)))) flts_nil)))) (flts_cons rfl flts_nil))) rfl)) fun r20 _ h=>
 mAsk 10 h beq_t beq_f (fun h=>
 mAsk 3 h beq_t beq_f (fun h=>
 mLen 4 enc_api_Row_2 r19.1.Rows <|
 mLen 2 enc_api_Row_2 r20.1.Rows <|
 mRet 5 h) fun h=>
 mRet 13 h) fun h=>
 mRet 17 h
theorem enter (x0:Int) (x1:(List api_FD×List api_FD)) (x2:api_FD) (φ:Bool→Prop) (h :
 ∃ r13:Bool,drosslaw20_awake.C  r13 ∧
 (if r13=true then
 (if 70<(x1.1.length:Int) then
 drosslaw20_RefuteErrors.L1  φ
 else
 (if 70<(x1.2.length:Int) then
 drosslaw20_RefuteErrors.L1  φ
 else
 drosslaw20_RefuteErrors.L2 x0 x1 x2 ([]) 0 φ))
 else
 drosslaw20_RefuteErrors.L1  φ)):∃ r,φ r∧C x0 x1 x2 r:=
 mEnt (fd:=Tryd.f6) (body:=B) (V:=W) (res:=res) <|
 mCalB 6 h (fun _ h=>h) (fun _ h=>
 mLen 4 enc_api_FD x1.1 <|
 mAsk 0 h dT dF (fun h=>
 mFin 9 h) fun h=>
 mLen 4 enc_api_FD x1.2 <|
 mAsk 0 h dT dF (fun h=>
 mFin 3 h) fun h=>
 mLen 10 enc_api_FD x1.2 <|
 mFin 2 h) fun _ h=>
 mFin 15 h
end drosslaw20_RefuteErrors
end Go.Own
