/- What the functions that the law reaches answer. No conditions. -/
import Derived.Test.YtbemcminbfhakaaDoorBase4
import Derived.Test.YtbemcminbfhakaaDoorOwn18
import Derived.Test.YtbemcminbfhakaaDoorBase1
import Derived.Test.YtbemcminbfhakaaDoorOwn24
set_option linter.all false
namespace Go.Own
open Go.Proofs D
set_option maxRecDepth 100000
set_option maxHeartbeats 4000000
namespace drossref02_Sub
noncomputable def B:Code:=(Tryd.f57.body).getD .skip
def W:List Nat:=[0,1,4]
def res (r:Bool):D×List D:=(.lit (.bool r),[])
def C (x0 x1:Int) (r:Bool):Prop:=Ret env 57 [.lit (.int .u32 x0),.lit (.int .u32 x1)] (res r).1 (res r).2
theorem enter (x0 x1:Int) (φ:Bool→Prop) (h :
 φ (((bAnd .u32 x0 x1) == x0))):∃ r,φ r∧C x0 x1 r:=
 mEnt (fd:=Tryd.f57) (body:=B) (V:=W) (res:=res) <|
 mRet 11 h
end drossref02_Sub
end Go.Own
namespace Go.Own
open Go.Proofs D
set_option maxRecDepth 100000
set_option maxHeartbeats 4000000
namespace drossref02_Full
noncomputable def B:Code:=(Tryd.f54.body).getD .skip
def W:List Nat:=[0,2,3,4,11]
def res (r:Int):D×List D:=(.lit (.int .u32 r),[])
def C (x0 r:Int):Prop:=Ret env 54 [.lit (.int .i64 x0)] (res r).1 (res r).2
def L1 (x0 z0 z1:Int) (φ:Int→Prop):Prop:=Pt env 54 W B [1,1,0,1,0] [(0,.lit (.int .i64 x0)),(3,.lit (.int .u32 z0)),(4,.lit (.int .i64 z1))] (Lv env 54 Tryd.f54 1 res φ)
theorem L1_step (x0 z0 z1:Int) (φ:Int→Prop) (h :
 (if z1<x0 then
 (if z1<32 then
 0≤z1 ∧
 drossref02_Full.L1 x0 ((bOr .u32 z0 (shlw .u32 1 z1))) ((IntKind.wrap .i64 (z1+1))) φ
 else
 φ z0)
 else
 φ z0)):L1 x0 z0 z1 φ:=
 mIn <|
 mAsk 4 h dT dF (fun h=>
 mAsk 2 h dT dF (fun h=>
 h.elim fun h1 h=>
 mBi 7 (bin_shl (t:=28) (q:=.u32) (q':=.i64) (i1:=1) h1) <|
 mFin 8 h) fun h=>
 mRet 8 h) fun h=>
 mRet 11 h
theorem enter (x0:Int) (φ:Int→Prop) (h :
 drossref02_Full.L1 x0 0 0 φ):∃ r,φ r∧C x0 r:=
 mEnt (fd:=Tryd.f54) (body:=B) (V:=W) (res:=res) <|
 mFin 9 h
end drossref02_Full
end Go.Own
namespace Go.Own
open Go.Proofs D
set_option maxRecDepth 100000
set_option maxHeartbeats 4000000
namespace closure_Valid
noncomputable def B:Code:=(Tryd.f38.body).getD .skip
def W:List Nat:=[0,1,4,6,12,15,16,17,18,19,29]
def res (r:Int):D×List D:=(.lit (.int .i64 r),[])
def C (x0:Int) (x1:List api_FD) (r:Int):Prop:=Ret env 38 [.lit (.int .i64 x0),.sl (x1.map enc_api_FD)] (res r).1 (res r).2
def L1 (x0:Int) (x1:List api_FD) (z0:Int) (φ:Int→Prop):Prop:=Pt env 38 W B [1,1,1,0,1,0] [(0,.lit (.int .i64 x0)),(1,.sl (x1.map enc_api_FD)),(16,.sl (x1.map enc_api_FD)),(17,.lit (.int .i64 ((x1.length:Int)))),(18,.lit (.int .i64 z0))] (Lv env 38 Tryd.f38 2 res φ)
theorem L1_step (x0:Int) (x1:List api_FD) (z0:Int) (φ:Int→Prop) (h :
 (if z0<(x1.length:Int) then
 ∃ a1,lget x1 z0=some a1 ∧
 0≤x0 ∧
 (if (shrw .u32 (bOr .u32 a1.Lhs a1.Rhs) x0)=0 then
 closure_Valid.L1 x0 x1 ((IntKind.wrap .i64 (z0+1))) φ
 else
 φ 1)
 else
 φ 0)):L1 x0 x1 z0 φ:=
 mIn <|
 mAsk 2 h dT dF (fun h=>
 mIx 4 enc_api_FD h fun a1 h2 h=>
 h.elim fun h3 h=>
 mBi 11 (bin_shr (t:=28) (q:=.u32) (q':=.i64) (i1:=(bOr .u32 a1.Lhs a1.Rhs)) h3) <|
 mAskN 0 h bne_t bne_f (fun h=>
 mRet 5 h) fun h=>
 mFin 7 h) fun h=>
 mRet 6 h
theorem enter (x0:Int) (x1:List api_FD) (φ:Int→Prop) (h :
 (if x0<0 then
 φ 7
 else
 (if 16<x0 then
 φ 7
 else
 (if 64<(x1.length:Int) then
 φ 3
 else
 closure_Valid.L1 x0 x1 0 φ)))):∃ r,φ r∧C x0 x1 r:=
 mEnt (fd:=Tryd.f38) (body:=B) (V:=W) (res:=res) <|
 mAsk 5 h dT dF (fun h=>
 mRet 9 h) fun h=>
 mAsk 2 h dT dF (fun h=>
 mRet 6 h) fun h=>
 mLen 6 enc_api_FD x1 <|
 mAsk 0 h dT dF (fun h=>
 mRet 5 h) fun h=>
 mLen 5 enc_api_FD x1 <|
 mFin 2 h
end closure_Valid
end Go.Own
namespace Go.Own
open Go.Proofs D
set_option maxRecDepth 100000
set_option maxHeartbeats 4000000
namespace drossref09_Valid
noncomputable def B:Code:=(Tryd.f43.body).getD .skip
def W:List Nat:=[0,1,4,5,6,12,15,21,41]
def res (r:Int):D×List D:=(.lit (.int .i64 r),[])
def C (x0:Int) (x1:List api_FD) (r:Int):Prop:=Ret env 43 [.lit (.int .i64 x0),.sl (x1.map enc_api_FD)] (res r).1 (res r).2
def L1 (x1:List api_FD) (r1 z0:Int) (φ:Int→Prop):Prop:=Pt env 43 W B [1,1,1,1,0,1,0] [(1,.sl (x1.map enc_api_FD)),(5,.lit (.int .u32 r1)),(6,.lit (.int .i64 z0))] (Lv env 43 Tryd.f43 2 res φ)
theorem L1_step (x1:List api_FD) (r1 z0:Int) (φ:Int→Prop) (h :
 (if z0<(x1.length:Int) then
 ∃ a2,lget x1 z0=some a2 ∧
 ∃ r4:Bool,drossref02_Sub.C a2.Lhs r1 r4 ∧
 (if r4=true then
 ∃ r5:Bool,drossref02_Sub.C a2.Rhs r1 r5 ∧
 (if r5=true then
 drossref09_Valid.L1 x1 r1 ((IntKind.wrap .i64 (z0+1))) φ
 else
 φ 1)
 else
 φ 1)
 else
 φ 0)):L1 x1 r1 z0 φ:=
 mIn <|
 mLen 4 enc_api_FD x1 <|
 mAsk 0 h dT dF (fun h=>
 mIx 6 enc_api_FD h fun a2 h3 h=>
 mCalB 3 h (fun _ h=>h) (fun _ h=>
 mIxf 4 enc_api_FD h3 <|
 mCalB 3 h (fun _ h=>h) (fun _ h=>
 mFin 10 h) fun _ h=>
 mRet 7 h) fun _ h=>
 mRet 16 h) fun h=>
 mRet 6 h
theorem enter (x0:Int) (x1:List api_FD) (φ:Int→Prop) (h :
 (if x0<0 then
 φ 7
 else
 (if 16<x0 then
 φ 7
 else
 (if 64<(x1.length:Int) then
 φ 3
 else
 ∃ r1:Int,drossref02_Full.C x0 r1 ∧
 drossref09_Valid.L1 x1 r1 0 φ)))):∃ r,φ r∧C x0 x1 r:=
 mEnt (fd:=Tryd.f43) (body:=B) (V:=W) (res:=res) <|
 mAsk 5 h dT dF (fun h=>
 mRet 9 h) fun h=>
 mAsk 2 h dT dF (fun h=>
 mRet 6 h) fun h=>
 mLen 6 enc_api_FD x1 <|
 mAsk 0 h dT dF (fun h=>
 mRet 5 h) fun h=>
 mCal 5 h (fun _ h=>h) fun r1 _ h=>
 mFin 5 h
end drossref09_Valid
end Go.Own
namespace Go.Own
open Go.Proofs D
set_option maxRecDepth 100000
set_option maxHeartbeats 4000000
namespace basis_Valid
noncomputable def B:Code:=(Tryd.f58.body).getD .skip
def W:List Nat:=[0,1,2,6,7,9,14,18,19,20,21,22,32]
def res (r:Int):D×List D:=(.lit (.int .i64 r),[])
def C (x0:Int) (x1:List api_FD) (x2:List api_MVD) (r:Int):Prop:=Ret env 58 [.lit (.int .i64 x0),.sl (x1.map enc_api_FD),.sl (x2.map enc_api_MVD)] (res r).1 (res r).2
def L1 (x0:Int) (x2:List api_MVD) (z0:Int) (φ:Int→Prop):Prop:=Pt env 58 W B [1,1,1,0,1,0] [(0,.lit (.int .i64 x0)),(2,.sl (x2.map enc_api_MVD)),(19,.sl (x2.map enc_api_MVD)),(20,.lit (.int .i64 ((x2.length:Int)))),(21,.lit (.int .i64 z0))] (Lv env 58 Tryd.f58 3 res φ)
theorem L1_step (x0:Int) (x2:List api_MVD) (z0:Int) (φ:Int→Prop) (h :
 (if z0<(x2.length:Int) then
 ∃ a2,lget x2 z0=some a2 ∧
 0≤x0 ∧
 (if (shrw .u32 (bOr .u32 a2.Lhs a2.Rhs) x0)=0 then
 basis_Valid.L1 x0 x2 ((IntKind.wrap .i64 (z0+1))) φ
 else
 φ 1)
 else
 φ 0)):L1 x0 x2 z0 φ:=
 mIn <|
 mAsk 2 h dT dF (fun h=>
 mIx 4 enc_api_MVD h fun a2 h3 h=>
 h.elim fun h4 h=>
 mBi 11 (bin_shr (t:=28) (q:=.u32) (q':=.i64) (i1:=(bOr .u32 a2.Lhs a2.Rhs)) h4) <|
 mAskN 0 h bne_t bne_f (fun h=>
 mRet 5 h) fun h=>
 mFin 7 h) fun h=>
 mRet 6 h
theorem enter (x0:Int) (x1:List api_FD) (x2:List api_MVD) (φ:Int→Prop) (h :
 ∃ r1:Int,closure_Valid.C x0 x1 r1 ∧
 (if r1=0 then
 (if 64<(x2.length:Int) then
 φ 3
 else
 basis_Valid.L1 x0 x2 0 φ)
 else
 φ r1)):∃ r,φ r∧C x0 x1 x2 r:=
 mEnt (fd:=Tryd.f58) (body:=B) (V:=W) (res:=res) <|
 mCal 6 h (fun _ h=>h) fun r1 _ h=>
 mAskN 4 h bne_t bne_f (fun h=>
 mRet 6 h) fun h=>
 mLen 5 enc_api_MVD x2 <|
 mAsk 0 h dT dF (fun h=>
 mRet 5 h) fun h=>
 mLen 5 enc_api_MVD x2 <|
 mFin 2 h
end basis_Valid
end Go.Own
namespace Go.Own
open Go.Proofs D
set_option maxRecDepth 100000
set_option maxHeartbeats 4000000
namespace drossref13_within
noncomputable def B:Code:=(Tryd.f30.body).getD .skip
def W:List Nat:=[0,1,4]
def res (r:Bool):D×List D:=(.lit (.bool r),[])
def C (x0 x1:Int) (r:Bool):Prop:=Ret env 30 [.lit (.int .i64 x0),.lit (.int .u32 x1)] (res r).1 (res r).2
theorem enter (x0 x1:Int) (φ:Bool→Prop) (h :
 ∃ r1:Int,drossref02_Full.C x0 r1 ∧
 ∃ r2:Bool,drossref02_Sub.C x1 r1 r2 ∧
 φ r2):∃ r,φ r∧C x0 x1 r:=
 mEnt (fd:=Tryd.f30) (body:=B) (V:=W) (res:=res) <|
 mCal 6 h (fun _ h=>h) fun r1 _ h=>
 mCal 0 h (fun _ h=>h) fun r2 _ h=>
 mRet 2 h
end drossref13_within
end Go.Own
namespace Go.Own
open Go.Proofs D
set_option maxRecDepth 100000
set_option maxHeartbeats 4000000
namespace drossref13_Valid
noncomputable def B:Code:=(Tryd.f29.body).getD .skip
def W:List Nat:=[0,1,2,6,7,8,13,17,21,41]
def res (r:Int):D×List D:=(.lit (.int .i64 r),[])
def C (x0:Int) (x1:List api_FD) (x2:List api_MVD) (r:Int):Prop:=Ret env 29 [.lit (.int .i64 x0),.sl (x1.map enc_api_FD),.sl (x2.map enc_api_MVD)] (res r).1 (res r).2
def L1 (x0:Int) (x2:List api_MVD) (z0:Int) (φ:Int→Prop):Prop:=Pt env 29 W B [1,1,1,0,1,0] [(0,.lit (.int .i64 x0)),(2,.sl (x2.map enc_api_MVD)),(8,.lit (.int .i64 z0))] (Lv env 29 Tryd.f29 3 res φ)
theorem L1_step (x0:Int) (x2:List api_MVD) (z0:Int) (φ:Int→Prop) (h :
 (if z0<(x2.length:Int) then
 ∃ a2,lget x2 z0=some a2 ∧
 ∃ r4:Bool,drossref13_within.C x0 a2.Lhs r4 ∧
 (if r4=true then
 ∃ r5:Bool,drossref13_within.C x0 a2.Rhs r5 ∧
 (if r5=true then
 drossref13_Valid.L1 x0 x2 ((IntKind.wrap .i64 (z0+1))) φ
 else
 φ 1)
 else
 φ 1)
 else
 φ 0)):L1 x0 x2 z0 φ:=
 mIn <|
 mLen 4 enc_api_MVD x2 <|
 mAsk 0 h dT dF (fun h=>
 mIx 7 enc_api_MVD h fun a2 h3 h=>
 mCalB 2 h (fun _ h=>h) (fun _ h=>
 mIxf 5 enc_api_MVD h3 <|
 mCalB 2 h (fun _ h=>h) (fun _ h=>
 mFin 10 h) fun _ h=>
 mRet 7 h) fun _ h=>
 mRet 16 h) fun h=>
 mRet 6 h
theorem enter (x0:Int) (x1:List api_FD) (x2:List api_MVD) (φ:Int→Prop) (h :
 ∃ r1:Int,drossref09_Valid.C x0 x1 r1 ∧
 (if r1=0 then
 (if 64<(x2.length:Int) then
 φ 3
 else
 drossref13_Valid.L1 x0 x2 0 φ)
 else
 φ r1)):∃ r,φ r∧C x0 x1 x2 r:=
 mEnt (fd:=Tryd.f29) (body:=B) (V:=W) (res:=res) <|
 mCal 6 h (fun _ h=>h) fun r1 _ h=>
 mAskN 4 h bne_t bne_f (fun h=>
 mRet 6 h) fun h=>
 mLen 5 enc_api_MVD x2 <|
 mAsk 0 h dT dF (fun h=>
 mRet 5 h) fun h=>
 mFin 6 h
end drossref13_Valid
end Go.Own
namespace Go.Own
open Go.Proofs D
set_option maxRecDepth 100000
set_option maxHeartbeats 4000000
namespace math_bits_OnesCount32
end math_bits_OnesCount32
end Go.Own
namespace Go.Own
open Go.Proofs D
set_option maxRecDepth 100000
set_option maxHeartbeats 4000000
namespace attrset_Size
end attrset_Size
end Go.Own
namespace Go.Own
open Go.Proofs D
set_option maxRecDepth 100000
set_option maxHeartbeats 4000000
namespace cmp_isNaN_api_Set
end cmp_isNaN_api_Set
end Go.Own
namespace Go.Own
open Go.Proofs D
set_option maxRecDepth 100000
set_option maxHeartbeats 4000000
namespace cmp_Compare_api_Set
end cmp_Compare_api_Set
end Go.Own
namespace Go.Own
open Go.Proofs D
set_option maxRecDepth 100000
set_option maxHeartbeats 4000000
namespace cmp_isNaN_int
end cmp_isNaN_int
end Go.Own
namespace Go.Own
open Go.Proofs D
set_option maxRecDepth 100000
set_option maxHeartbeats 4000000
namespace cmp_Compare_int
end cmp_Compare_int
end Go.Own
namespace Go.Own
open Go.Proofs D
set_option maxRecDepth 100000
set_option maxHeartbeats 4000000
namespace cmp_Or_int
end cmp_Or_int
end Go.Own
namespace Go.Own
open Go.Proofs D
set_option maxRecDepth 100000
set_option maxHeartbeats 4000000
namespace attrset_compare
def res (r:Int):D×List D:=(.lit (.int .i64 r),[])
def C (x0 x1 r:Int):Prop:=Ret env 75 [.lit (.int .u32 x0),.lit (.int .u32 x1)] (res r).1 (res r).2
end attrset_compare
end Go.Own
namespace Go.Own
open Go.Proofs D
set_option maxRecDepth 100000
set_option maxHeartbeats 4000000
namespace slices_insertionSortCmpFunc_api_Set_attrset_compare
end slices_insertionSortCmpFunc_api_Set_attrset_compare
end Go.Own
namespace Go.Own
open Go.Proofs D
set_option maxRecDepth 100000
set_option maxHeartbeats 4000000
namespace slices_siftDownCmpFunc_api_Set_attrset_compare
end slices_siftDownCmpFunc_api_Set_attrset_compare
end Go.Own
namespace Go.Own
open Go.Proofs D
set_option maxRecDepth 100000
set_option maxHeartbeats 4000000
namespace slices_heapSortCmpFunc_api_Set_attrset_compare
end slices_heapSortCmpFunc_api_Set_attrset_compare
end Go.Own
namespace Go.Own
open Go.Proofs D
set_option maxRecDepth 100000
set_option maxHeartbeats 4000000
namespace slices_partialInsertionSortCmpFunc_api_Set_attrset_compare
end slices_partialInsertionSortCmpFunc_api_Set_attrset_compare
end Go.Own
namespace Go.Own
open Go.Proofs D
set_option maxRecDepth 100000
set_option maxHeartbeats 4000000
namespace slices_partitionCmpFunc_api_Set_attrset_compare
end slices_partitionCmpFunc_api_Set_attrset_compare
end Go.Own
namespace Go.Own
open Go.Proofs D
set_option maxRecDepth 100000
set_option maxHeartbeats 4000000
namespace slices_partitionEqualCmpFunc_api_Set_attrset_compare
end slices_partitionEqualCmpFunc_api_Set_attrset_compare
end Go.Own
namespace Go.Own
open Go.Proofs D
set_option maxRecDepth 100000
set_option maxHeartbeats 4000000
namespace slices_reverseRangeCmpFunc_api_Set_attrset_compare
end slices_reverseRangeCmpFunc_api_Set_attrset_compare
end Go.Own
namespace Go.Own
open Go.Proofs D
set_option maxRecDepth 100000
set_option maxHeartbeats 4000000
namespace slices_order2CmpFunc_api_Set_attrset_compare
end slices_order2CmpFunc_api_Set_attrset_compare
end Go.Own
namespace Go.Own
open Go.Proofs D
set_option maxRecDepth 100000
set_option maxHeartbeats 4000000
namespace slices_medianCmpFunc_api_Set_attrset_compare
end slices_medianCmpFunc_api_Set_attrset_compare
end Go.Own
namespace Go.Own
open Go.Proofs D
set_option maxRecDepth 100000
set_option maxHeartbeats 4000000
namespace slices_medianAdjacentCmpFunc_api_Set_attrset_compare
end slices_medianAdjacentCmpFunc_api_Set_attrset_compare
end Go.Own
namespace Go.Own
open Go.Proofs D
set_option maxRecDepth 100000
set_option maxHeartbeats 4000000
namespace slices_choosePivotCmpFunc_api_Set_attrset_compare
end slices_choosePivotCmpFunc_api_Set_attrset_compare
end Go.Own
namespace Go.Own
open Go.Proofs D
set_option maxRecDepth 100000
set_option maxHeartbeats 4000000
namespace math_bits_Len64
end math_bits_Len64
end Go.Own
namespace Go.Own
open Go.Proofs D
set_option maxRecDepth 100000
set_option maxHeartbeats 4000000
namespace math_bits_Len
end math_bits_Len
end Go.Own
namespace Go.Own
open Go.Proofs D
set_option maxRecDepth 100000
set_option maxHeartbeats 4000000
namespace slices_nextPowerOfTwo
end slices_nextPowerOfTwo
end Go.Own
namespace Go.Own
open Go.Proofs D
set_option maxRecDepth 100000
set_option maxHeartbeats 4000000
namespace slices_xorshift_Next
end slices_xorshift_Next
end Go.Own
namespace Go.Own
open Go.Proofs D
set_option maxRecDepth 100000
set_option maxHeartbeats 4000000
namespace slices_breakPatternsCmpFunc_api_Set_attrset_compare
end slices_breakPatternsCmpFunc_api_Set_attrset_compare
end Go.Own
namespace Go.Own
open Go.Proofs D
set_option maxRecDepth 100000
set_option maxHeartbeats 4000000
namespace slices_pdqsortCmpFunc_api_Set_attrset_compare
end slices_pdqsortCmpFunc_api_Set_attrset_compare
end Go.Own
namespace Go.Own
open Go.Proofs D
set_option maxRecDepth 100000
set_option maxHeartbeats 4000000
namespace slices_SortFunc_sapi_Set_api_Set_attrset_compare
end slices_SortFunc_sapi_Set_api_Set_attrset_compare
end Go.Own
namespace Go.Own
open Go.Proofs D
set_option maxRecDepth 100000
set_option maxHeartbeats 4000000
namespace slices_Compact_sapi_Set_api_Set
end slices_Compact_sapi_Set_api_Set
end Go.Own
namespace Go.Own
open Go.Proofs D
set_option maxRecDepth 100000
set_option maxHeartbeats 4000000
namespace attrset_Order
end attrset_Order
end Go.Own
namespace Go.Own
open Go.Proofs D
set_option maxRecDepth 100000
set_option maxHeartbeats 4000000
namespace drossref09_List
noncomputable def B:Code:=(Tryd.f21.body).getD .skip
def W:List Nat:=[0,1,4,5,6,7,13]
def res (r:List api_FD):D×List D:=(.own (r.map enc_api_FD),[])
def C (x0:Int) (x1:List drossref09_Dep) (r:List api_FD):Prop:=Ret env 21 [.lit (.int .i64 x0),.sl (x1.map enc_drossref09_Dep)] (res r).1 (res r).2
def L1 (x1:List drossref09_Dep) (r1:Int) (z0:List api_FD) (z1:Int) (φ:List api_FD→Prop):Prop:=Pt env 21 W B [1,1,1,0,1,0] [(1,.sl (x1.map enc_drossref09_Dep)),(5,.lit (.int .u32 r1)),(6,.own (z0.map enc_api_FD)),(7,.lit (.int .i64 z1))] (Lv env 21 Tryd.f21 2 res φ)
theorem L1_step (x1:List drossref09_Dep) (r1:Int) (z0:List api_FD) (z1:Int) (φ:List api_FD→Prop) (h :
 (if z1<(x1.length:Int) then
 ∃ a2,lget x1 z1=some a2 ∧
 (z0.length+1)*8≤140737488355328 ∧
 drossref09_List.L1 x1 r1 ((z0++[(⟨(bAnd .u32 (IntKind.wrap .u32 a2.L) r1),(bAnd .u32 (IntKind.wrap .u32 a2.R) r1)⟩:api_FD)])) ((IntKind.wrap .i64 (z1+1))) φ
 else
 φ z0)):L1 x1 r1 z0 z1 φ:=
 mIn <|
 mLen 4 enc_drossref09_Dep x1 <|
 mAsk 0 h dT dF (fun h=>
 mIx 7 enc_drossref09_Dep h fun a2 h3 h=>
 mIxf 7 enc_drossref09_Dep h3 <|
 mApp 7 enc_api_FD z0 ([(⟨(bAnd .u32 (IntKind.wrap .u32 a2.L) r1),(bAnd .u32 (IntKind.wrap .u32 a2.R) r1)⟩:api_FD)]) h fun h=>
 mFin 7 h) fun h=>
 mRet 7 h
theorem enter (x0:Int) (x1:List drossref09_Dep) (φ:List api_FD→Prop) (h :
 ∃ r1:Int,drossref02_Full.C x0 r1 ∧
 drossref09_List.L1 x1 r1 ([]) 0 φ):∃ r,φ r∧C x0 x1 r:=
 mEnt (fd:=Tryd.f21) (body:=B) (V:=W) (res:=res) <|
 mCal 5 h (fun _ h=>h) fun r1 _ h=>
 mFin 8 h
end drossref09_List
end Go.Own
namespace Go.Own
open Go.Proofs D
set_option maxRecDepth 100000
set_option maxHeartbeats 4000000
namespace drossref09_Of
noncomputable def B:Code:=(Tryd.f26.body).getD .skip
def W:List Nat:=[0,1,2,3,4,5]
def res (r:Int×List api_FD×Bool):D×List D:=(.tup [.lit (.int .i64 r.1),.sl (r.2.1.map enc_api_FD),.lit (.bool r.2.2)],[])
def C (x0:drossref09_Deps) (r:Int×List api_FD×Bool):Prop:=Ret env 26 [.agg [.lit (.int .u8 x0.N),.sl (x0.L.map enc_drossref09_Dep)]] (res r).1 (res r).2
theorem enter (x0:drossref09_Deps) (φ:Int×List api_FD×Bool→Prop) (h :
 ∃ r1:List api_FD,drossref09_List.C ((IntKind.wrap .i64 (Int.tmod x0.N 7))) x0.L r1 ∧
 φ (((IntKind.wrap .i64 (Int.tmod x0.N 7)),r1,(decide ((x0.L.length:Int)≤6))))):∃ r,φ r∧C x0 r:=
 mEnt (fd:=Tryd.f26) (body:=B) (V:=W) (res:=res) <|
 mLoE 18 h (fun _ h=>h) (fun (r1:List api_FD)=>cold_ow (l:=r1) (e:=enc_api_FD) (e':=enc_api_FD) rfl (fun _=>rfl)) (hf:=(fun _=>loF_flat (flat_ow (e:=enc_api_FD) (fun _=>rfl)))) fun r1 _ h=>
 mLen 2 enc_drossref09_Dep x0.L <|
 mRet 5 h
end drossref09_Of
end Go.Own
namespace Go.Own
open Go.Proofs D
set_option maxRecDepth 100000
set_option maxHeartbeats 4000000
namespace drosslaw13_awake
def res (r:Bool):D×List D:=(.lit (.bool r),[])
def C  (r:Bool):Prop:=Ret env 8 [] (res r).1 (res r).2
end drosslaw13_awake
end Go.Own
namespace Go.Own
set_option maxRecDepth 1000000
theorem drosslaw13_awake.run:callN env 400 8 []=some (.lit (.bool true),[]):=by kernel_rfl
theorem drosslaw13_awake.spec:drosslaw13_awake.C true:=Ret.of drosslaw13_awake.run
end Go.Own
namespace Go.Own
open Go.Proofs D
set_option maxRecDepth 100000
set_option maxHeartbeats 4000000
namespace basis_check
noncomputable def B:Code:=(Tryd.f31.body).getD .skip
def W:List Nat:=[0,1,2,3,8,9,15,20]
def res (r:Int):D×List D:=(.lit (.int .i64 r),[])
def C (x0:Int) (x1:List api_FD) (x2:List api_MVD) (x3 r:Int):Prop:=Ret env 31 [.lit (.int .i64 x0),.sl (x1.map enc_api_FD),.sl (x2.map enc_api_MVD),.lit (.int .u32 x3)] (res r).1 (res r).2
theorem enter (x0:Int) (x1:List api_FD) (x2:List api_MVD) (x3:Int) (φ:Int→Prop) (h :
 ∃ r1:Int,basis_Valid.C x0 x1 x2 r1 ∧
 (if r1=0 then
 0≤x0 ∧
 (if (shrw .u32 x3 x0)=0 then
 φ 0
 else
 φ 1)
 else
 φ r1)):∃ r,φ r∧C x0 x1 x2 x3 r:=
 mEnt (fd:=Tryd.f31) (body:=B) (V:=W) (res:=res) <|
 mCal 7 h (fun _ h=>h) fun r1 _ h=>
 mAskN 4 h bne_t bne_f (fun h=>
 mRet 6 h) fun h=>
 h.elim fun h2 h=>
 mBi 6 (bin_shr (t:=28) (q:=.u32) (q':=.i64) (i1:=x3) h2) <|
 mAskN 0 h bne_t bne_f (fun h=>
 mRet 5 h) fun h=>
 mRet 6 h
end basis_check
end Go.Own
namespace Go.Own
open Go.Proofs D
set_option maxRecDepth 100000
set_option maxHeartbeats 4000000
namespace basis_Basis
noncomputable def B:Code:=(Tryd.f10.body).getD .skip
def W:List Nat:=[0,1,2,3,8,9,10,17]
def res (r:List Int×Int):D×List D:=(.tup [.own (r.1.map (eI .u32)),.lit (.int .i64 r.2)],[])
def C (x0:Int) (x1:List api_FD) (x2:List api_MVD) (x3:Int) (r:List Int×Int):Prop:=Ret env 10 [.lit (.int .i64 x0),.sl (x1.map enc_api_FD),.sl (x2.map enc_api_MVD),.lit (.int .u32 x3)] (res r).1 (res r).2
theorem enter (x0:Int) (x1:List api_FD) (x2:List api_MVD) (x3:Int) (φ:List Int×Int→Prop) (h :
 ∃ r1:Int,basis_check.C x0 x1 x2 x3 r1 ∧
 (if r1=0 then
 False
 else
 φ (([],r1)))):∃ r,φ r∧C x0 x1 x2 x3 r:=
 mEnt (fd:=Tryd.f10) (body:=B) (V:=W) (res:=res) <|
 mCal 9 h (fun _ h=>h) fun r1 _ h=>
 mAskN 4 h bne_t bne_f (fun h=>
 mRet 7 h) fun h=>
 h.elim
end basis_Basis
end Go.Own
namespace Go.Own
open Go.Proofs D
set_option maxRecDepth 100000
set_option maxHeartbeats 4000000
namespace basis_Close
noncomputable def B:Code:=(Tryd.f11.body).getD .skip
def W:List Nat:=[0,1,2,3,8,9,10,11,13,20,28,29,30,31,36,39]
def res (r:Int×Int):D×List D:=(.tup [.lit (.int .u32 r.1),.lit (.int .i64 r.2)],[])
def C (x0:Int) (x1:List api_FD) (x2:List api_MVD) (x3:Int) (r:Int×Int):Prop:=Ret env 11 [.lit (.int .i64 x0),.sl (x1.map enc_api_FD),.sl (x2.map enc_api_MVD),.lit (.int .u32 x3)] (res r).1 (res r).2
theorem enter (x0:Int) (x1:List api_FD) (x2:List api_MVD) (x3:Int) (φ:Int×Int→Prop) (h :
 ∃ r1:Int,basis_check.C x0 x1 x2 x3 r1 ∧
 (if r1=0 then
 False
 else
 φ ((0,r1)))):∃ r,φ r∧C x0 x1 x2 x3 r:=
 mEnt (fd:=Tryd.f11) (body:=B) (V:=W) (res:=res) <|
 mCal 9 h (fun _ h=>h) fun r1 _ h=>
 mAskN 4 h bne_t bne_f (fun h=>
 mRet 7 h) fun h=>
 h.elim
end basis_Close
end Go.Own
namespace Go.Own
open Go.Proofs D
set_option maxRecDepth 100000
set_option maxHeartbeats 4000000
namespace basis_ImpliesFD
noncomputable def B:Code:=(Tryd.f13.body).getD .skip
def W:List Nat:=[0,1,2,3,7,8,9,10,11,12,23]
def res (r:Bool×Int):D×List D:=(.tup [.lit (.bool r.1),.lit (.int .i64 r.2)],[])
def C (x0:Int) (x1:List api_FD) (x2:List api_MVD) (x3:api_FD) (r:Bool×Int):Prop:=Ret env 13 [.lit (.int .i64 x0),.sl (x1.map enc_api_FD),.sl (x2.map enc_api_MVD),.agg [.lit (.int .u32 x3.Lhs),.lit (.int .u32 x3.Rhs)]] (res r).1 (res r).2
theorem enter (x0:Int) (x1:List api_FD) (x2:List api_MVD) (x3:api_FD) (φ:Bool×Int→Prop) (h :
 ∃ r1:Int,basis_check.C x0 x1 x2 ((bOr .u32 x3.Lhs x3.Rhs)) r1 ∧
 (if r1=0 then
 ∃ r2:Int×Int,basis_Close.C x0 x1 x2 x3.Lhs r2 ∧
 φ ((((bAndNot .u32 x3.Rhs r2.1) == 0),0))
 else
 φ ((false,r1)))):∃ r,φ r∧C x0 x1 x2 x3 r:=
 mEnt (fd:=Tryd.f13) (body:=B) (V:=W) (res:=res) <|
 mCal 14 h (fun _ h=>h) fun r1 _ h=>
 mAskN 4 h bne_t bne_f (fun h=>
 mRet 7 h) fun h=>
 mCal 9 h (fun _ h=>h) (hf:=(fun _=>clF_flat (flat_tup (flts_cons rfl (flts_cons rfl flts_nil))) rfl)) fun r2 _ h=>
 mRet 15 h
end basis_ImpliesFD
end Go.Own
namespace Go.Own
open Go.Proofs D
set_option maxRecDepth 100000
set_option maxHeartbeats 4000000
namespace basis_ImpliesMVD
noncomputable def B:Code:=(Tryd.f12.body).getD .skip
def W:List Nat:=[0,1,2,3,7,8,9,10,12,23,31,32,33,34,48]
def res (r:Bool×Int):D×List D:=(.tup [.lit (.bool r.1),.lit (.int .i64 r.2)],[])
def C (x0:Int) (x1:List api_FD) (x2:List api_MVD) (x3:api_MVD) (r:Bool×Int):Prop:=Ret env 12 [.lit (.int .i64 x0),.sl (x1.map enc_api_FD),.sl (x2.map enc_api_MVD),.agg [.lit (.int .u32 x3.Lhs),.lit (.int .u32 x3.Rhs)]] (res r).1 (res r).2
theorem enter (x0:Int) (x1:List api_FD) (x2:List api_MVD) (x3:api_MVD) (φ:Bool×Int→Prop) (h :
 ∃ r1:Int,basis_check.C x0 x1 x2 ((bOr .u32 x3.Lhs x3.Rhs)) r1 ∧
 (if r1=0 then
 False
 else
 φ ((false,r1)))):∃ r,φ r∧C x0 x1 x2 x3 r:=
 mEnt (fd:=Tryd.f12) (body:=B) (V:=W) (res:=res) <|
 mCal 14 h (fun _ h=>h) fun r1 _ h=>
 mAskN 4 h bne_t bne_f (fun h=>
 mRet 7 h) fun h=>
 h.elim
end basis_ImpliesMVD
end Go.Own
namespace Go.Own
open Go.Proofs D
set_option maxRecDepth 100000
set_option maxHeartbeats 4000000
namespace drossref13_Error
noncomputable def B:Code:=(Tryd.f9.body).getD .skip
def W:List Nat:=[0,1,2,3,4,10,11,17,28]
def res (r:Int):D×List D:=(.lit (.int .i64 r),[])
def C (x0:Int) (x1:List api_FD) (x2:List api_MVD) (x3 x4 r:Int):Prop:=Ret env 9 [.lit (.int .i64 x0),.sl (x1.map enc_api_FD),.sl (x2.map enc_api_MVD),.lit (.int .u32 x3),.lit (.int .u32 x4)] (res r).1 (res r).2
theorem enter (x0:Int) (x1:List api_FD) (x2:List api_MVD) (x3 x4:Int) (φ:Int→Prop) (h :
 ∃ r1:Int,drossref13_Valid.C x0 x1 x2 r1 ∧
 (if r1=0 then
 ∃ r2:Bool,drossref13_within.C x0 x3 r2 ∧
 (if r2=true then
 ∃ r3:Bool,drossref13_within.C x0 x4 r3 ∧
 (if r3=true then
 φ 0
 else
 φ 1)
 else
 φ 1)
 else
 φ r1)):∃ r,φ r∧C x0 x1 x2 x3 x4 r:=
 mEnt (fd:=Tryd.f9) (body:=B) (V:=W) (res:=res) <|
 mCal 7 h (fun _ h=>h) fun r1 _ h=>
 mAskN 4 h bne_t bne_f (fun h=>
 mRet 6 h) fun h=>
 mCalB 6 h (fun _ h=>h) (fun _ h=>
 mCalB 4 h (fun _ h=>h) (fun _ h=>
 mRet 8 h) fun _ h=>
 mRet 7 h) fun _ h=>
 mRet 12 h
end drossref13_Error
end Go.Own
namespace Go.Own
open Go.Proofs D
set_option maxRecDepth 100000
set_option maxHeartbeats 4000000
namespace drossref13_List
noncomputable def B:Code:=(Tryd.f27.body).getD .skip
def W:List Nat:=[0,1,4,5,6,7,14]
def res (r:List api_MVD):D×List D:=(.own (r.map enc_api_MVD),[])
def C (x0:Int) (x1:List drossref09_Dep) (r:List api_MVD):Prop:=Ret env 27 [.lit (.int .i64 x0),.sl (x1.map enc_drossref09_Dep)] (res r).1 (res r).2
def L1 (z0:List api_MVD) (r1:List api_FD) (z1:Int) (φ:List api_MVD→Prop):Prop:=Pt env 27 W B [1,1,1,0,1,0] [(5,.own (z0.map enc_api_MVD)),(6,.own (r1.map enc_api_FD)),(7,.lit (.int .i64 z1))] (Lv env 27 Tryd.f27 2 res φ)
theorem L1_step (z0:List api_MVD) (r1:List api_FD) (z1:Int) (φ:List api_MVD→Prop) (h :
 (if z1<(r1.length:Int) then
 ∃ a2,lget r1 z1=some a2 ∧
 (z0.length+1)*8≤140737488355328 ∧
 drossref13_List.L1 ((z0++[(⟨a2.Lhs,a2.Rhs⟩:api_MVD)])) r1 ((IntKind.wrap .i64 (z1+1))) φ
 else
 φ z0)):L1 z0 r1 z1 φ:=
 mIn <|
 mLen 4 enc_api_FD r1 <|
 mAsk 0 h dT dF (fun h=>
 mIy 7 enc_api_FD h fun a2 h3 h=>
 mLd 1 enc_api_FD h3 <|
 mIyf 2 enc_api_FD h3 <|
 mLd 1 enc_api_FD h3 <|
 mApp 2 enc_api_MVD z0 ([(⟨a2.Lhs,a2.Rhs⟩:api_MVD)]) h fun h=>
 mFin 7 h) fun h=>
 mRet 7 h
theorem enter (x0:Int) (x1:List drossref09_Dep) (φ:List api_MVD→Prop) (h :
 ∃ r1:List api_FD,drossref09_List.C x0 x1 r1 ∧
 drossref13_List.L1 ([]) r1 0 φ):∃ r,φ r∧C x0 x1 r:=
 mEnt (fd:=Tryd.f27) (body:=B) (V:=W) (res:=res) <|
 mCal 9 h (fun _ h=>h) (hf:=(fun _=>clF_flat (flat_ow (e:=enc_api_FD) (fun _=>rfl)) rfl)) fun r1 _ h=>
 mFin 5 h
end drossref13_List
end Go.Own
namespace Go.Own
open Go.Proofs D
set_option maxRecDepth 100000
set_option maxHeartbeats 4000000
namespace drossref13_Of
noncomputable def B:Code:=(Tryd.f7.body).getD .skip
def W:List Nat:=[0,1,2,3,4,5,6,7,8]
def res (r:Int×List api_FD×List api_MVD×Bool):D×List D:=(.tup [.lit (.int .i64 r.1),.sl (r.2.1.map enc_api_FD),.sl (r.2.2.1.map enc_api_MVD),.lit (.bool r.2.2.2)],[])
def C (x0:drossref13_Mixed) (r:Int×List api_FD×List api_MVD×Bool):Prop:=Ret env 7 [.agg [.lit (.int .u8 x0.D.N),.sl (x0.D.L.map enc_drossref09_Dep),.sl (x0.M.map enc_drossref09_Dep)]] (res r).1 (res r).2
theorem enter (x0:drossref13_Mixed) (φ:Int×List api_FD×List api_MVD×Bool→Prop) (h :
 ∃ r1:Int×List api_FD×Bool,drossref09_Of.C x0.D r1 ∧
 ∃ r2:List api_MVD,drossref13_List.C r1.1 x0.M r2 ∧
 (if r1.2.2=true then
 φ ((r1.1,r1.2.1,r2,(decide ((x0.M.length:Int)≤4))))
 else
 φ ((r1.1,r1.2.1,r2,false)))):∃ r,φ r∧C x0 r:=
 mEnt (fd:=Tryd.f7) (body:=B) (V:=W) (res:=res) <|
 mCal 10 h (fun _ h=>h) (hf:=(fun _=>clF_both)) fun r1 _ h=>
 mLoE 14 h (fun _ h=>h) (fun (r2:List api_MVD)=>cold_ow (l:=r2) (e:=enc_api_MVD) (e':=enc_api_MVD) rfl (fun _=>rfl)) (hf:=(fun _=>loF_flat (flat_ow (e:=enc_api_MVD) (fun _=>rfl)))) fun r2 _ h=>
 mAsk 0 h id fls (fun h=>
 mLen 3 enc_drossref09_Dep x0.M <|
 mRet 7 h) fun h=>
 mRet 11 h
end drossref13_Of
end Go.Own
namespace Go.Own
open Go.Proofs D
set_option maxRecDepth 100000
set_option maxHeartbeats 4000000
namespace drosslaw13_BasisErrors
noncomputable def B:Code:=(Tryd.f3.body).getD .skip
def W:List Nat:=[0,1,2,4,5,6,7,8,9,10,11,12,13,14,15,16,17,18,19,20,33,50,85,87]
def res (r:Bool):D×List D:=(.lit (.bool r),[])
def C (x0:Int) (x1:drossref13_Mixed) (x2:(Int×Int)) (r:Bool):Prop:=Ret env 3 [.lit (.int .i64 x0),.agg [.lit (.int .u8 x1.D.N),.sl (x1.D.L.map enc_drossref09_Dep),.sl (x1.M.map enc_drossref09_Dep)],.agg [.lit (.int .u32 x2.1),.lit (.int .u32 x2.2)]] (res r).1 (res r).2
def L1 (x0:Int) (x2:(Int×Int)) (r9:Int×List api_FD×List api_MVD×Bool) (r12:Int) (φ:Bool→Prop):Prop:=Pt env 3 W B [1,1,1,1,1,0,0] [(0,.lit (.int .i64 x0)),(2,.agg [.lit (.int .u32 x2.1),.lit (.int .u32 x2.2)]),(5,.box [.lit (.int .u32 x2.1),.lit (.int .u32 x2.2)]),(8,.sl (r9.2.1.map enc_api_FD)),(9,.sl (r9.2.2.1.map enc_api_MVD)),(12,.lit (.int .i64 r12))] (Lv env 3 Tryd.f3 3 res φ)
def L2  (φ:Bool→Prop):Prop:=Pt env 3 W B [1,1,0,1,0,0] [] (Lv env 3 Tryd.f3 3 res φ)
theorem L1_step (x0:Int) (x2:(Int×Int)) (r9:Int×List api_FD×List api_MVD×Bool) (r12:Int) (φ:Bool→Prop) (h :
 (if r12=0 then
 φ true
 else
 ∃ r22:Bool×Int,basis_ImpliesMVD.C x0 r9.2.1 r9.2.2.1 ((⟨x2.1,x2.2⟩:api_MVD)) r22 ∧
 ∃ r23:Bool×Int,basis_ImpliesFD.C x0 r9.2.1 r9.2.2.1 ((⟨x2.1,x2.2⟩:api_FD)) r23 ∧
 (if r22.1=true then
 φ false
 else
 (if r22.2=r12 then
 (if r23.1=true then
 φ false
 else
 φ ((r23.2 == r12)))
 else
 φ false)))):L1 x0 x2 r9 r12 φ:=
 mIn <|
 mAsk 2 h beq_t beq_f (fun h=>
 mRet 5 h) fun h=>
 mCal 12 h (fun _ h=>h) (hf:=(fun _=>clF_flat (flat_tup (flts_cons rfl (flts_cons rfl flts_nil))) rfl)) fun r22 _ h=>
 mCal 15 h (fun _ h=>h) (hf:=(fun _=>clF_flat (flat_tup (flts_cons rfl (flts_cons rfl flts_nil))) rfl)) fun r23 _ h=>
 mAsk 7 h id fls (fun h=>
 mRet 17 h) fun h=>
 mAsk 4 h beq_t beq_f (fun h=>
 mAsk 2 h id fls (fun h=>
 mRet 9 h) fun h=>
 mRet 9 h) fun h=>
 mRet 12 h
theorem L2_step  (φ:Bool→Prop) (h :
 ∃ r24:Bool,drosslaw13_awake.C  r24 ∧
 φ r24):L2  φ:=
 mIn <|
 mCal 1 h (fun _ h=>h) fun r24 _ h=>
 mRet 2 h
theorem enter (x0:Int) (x1:drossref13_Mixed) (x2:(Int×Int)) (φ:Bool→Prop) (h :
 ∃ r16:Int×List api_FD×List api_MVD×Bool,drossref13_Of.C x1 r16 ∧
 ∃ r17:Bool,drosslaw13_awake.C  r17 ∧
 (if r17=true then
 (if r16.2.2.2=true then
 ∃ r18:Int,drossref13_Error.C x0 r16.2.1 r16.2.2.1 x2.1 0 r18 ∧
 ∃ r19:Int,drossref13_Error.C x0 r16.2.1 r16.2.2.1 x2.1 x2.2 r19 ∧
 (if r18=0 then
 drosslaw13_BasisErrors.L1 x0 x2 r16 r19 φ
 else
 ∃ r20:List Int×Int,basis_Basis.C x0 r16.2.1 r16.2.2.1 x2.1 r20 ∧
 ∃ r21:Int×Int,basis_Close.C x0 r16.2.1 r16.2.2.1 x2.1 r21 ∧
 (if (r20.1.length:Int)=0 then
 (if r20.2=r18 then
 (if r21.1=0 then
 (if r21.2=r18 then
 drosslaw13_BasisErrors.L1 x0 x2 r16 r19 φ
 else
 φ false)
 else
 φ false)
 else
 φ false)
 else
 φ false))
 else
 drosslaw13_BasisErrors.L2  φ)
 else
 drosslaw13_BasisErrors.L2  φ)):∃ r,φ r∧C x0 x1 x2 r:=
 mEnt (fd:=Tryd.f3) (body:=B) (V:=W) (res:=res) <|
 mCal 7 h (fun _ h=>h) (hf:=(fun _=>clF_both)) fun r16 _ h=>
 mCalB 11 h (fun _ h=>h) (fun _ h=>
 mAsk 2 h id fls (fun h=>
 mLo 11 h (fun _ h=>h) fun r18 _ h=>
 mCal 7 h (fun _ h=>h) fun r19 _ h=>
 mAskN 5 h bne_t bne_f (fun h=>
 mCalE 8 h (fun _ h=>h) (fun (r20:List Int×Int)=>cold_tup rfl (fcs_cons (freeze_ow (e:=(eI .u32)) (e':=(eI .u32)) (fun _=>rfl) r20.1) (fcs_cons rfl fcs_nil))) (hf:=(fun _=>clF_flat (flat_tup (flts_cons (flat_ow (e:=(eI .u32)) (fun _=>rfl)) (flts_cons rfl flts_nil))) rfl)) fun r20 _ h=>
 mCal 12 h (fun _ h=>h) (hf:=(fun _=>clF_flat (flat_tup (flts_cons rfl (flts_cons rfl flts_nil))) rfl)) fun r21 _ h=>
 mLen 8 (eI .u32) r20.1 <|
 mAskN 0 h bne_t bne_f (fun h=>
 mRet 19 h) fun h=>
 mAskN 3 h bne_t bne_f (fun h=>
 mRet 15 h) fun h=>
 mAskN 3 h bne_t bne_f (fun h=>
 mRet 11 h) fun h=>
 mAskN 4 h bne_t bne_f (fun h=>
 mRet 6 h) fun h=>
 mFin 4 h) fun h=>
 mFin 3 h) fun h=>
 mFin 4 h) fun _ h=>
 mFin 7 h
end drosslaw13_BasisErrors
end Go.Own
