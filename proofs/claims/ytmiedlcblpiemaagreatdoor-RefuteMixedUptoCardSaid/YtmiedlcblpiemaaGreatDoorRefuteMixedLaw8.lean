/- What the functions that the law reaches answer. No conditions. -/
import Derived.Test.YtmiedlcblpiemaaGreatDoorBase5
import Derived.Test.YtmiedlcblpiemaaGreatDoorOwn25
set_option linter.all false
namespace Go.Own
open Go.Proofs D
set_option maxRecDepth 100000
set_option maxHeartbeats 4000000
namespace drossref02_Sub
noncomputable def B:Code:=(Tryz.f12.body).getD .skip
def W:List Nat:=[0,1,4]
def res (r:Bool):D×List D:=(.lit (.bool r),[])
def C (x0 x1:Int) (r:Bool):Prop:=Ret env 12 [.lit (.int .u32 x0),.lit (.int .u32 x1)] (res r).1 (res r).2
theorem enter (x0 x1:Int) (φ:Bool→Prop) (h :
 φ (((bAnd .u32 x0 x1) == x0))):∃ r,φ r∧C x0 x1 r:=
 mEnt (fd:=Tryz.f12) (body:=B) (V:=W) (res:=res) <|
 mRet 11 h
end drossref02_Sub
namespace drossref02_Full
noncomputable def B:Code:=(Tryz.f30.body).getD .skip
def W:List Nat:=[0,2,3,4,11]
def res (r:Int):D×List D:=(.lit (.int .u32 r),[])
def C (x0 r:Int):Prop:=Ret env 30 [.lit (.int .i64 x0)] (res r).1 (res r).2
def L1 (x0 z0 z1:Int) (φ:Int→Prop):Prop:=Pt env 30 W B [1,1,0,1,0] [(0,.lit (.int .i64 x0)),(3,.lit (.int .u32 z0)),(4,.lit (.int .i64 z1))] (Lv env 30 Tryz.f30 1 res φ)
theorem L1_step (x0 z0 z1:Int) (φ:Int→Prop) (h :
 (if z1<x0 then
 (if z1<32 then
 0≤z1 ∧
 drossref02_Full.L1 x0 ((bOr .u32 z0 (shlw .u32 1 z1))) ((IntKind.wrap .i64 (z1+1))) φ
 else
 φ z0)
 else
 φ z0)):L1 x0 z0 z1 φ:=
 mIn <|
 mAsk 4 h dT dF (fun h=>
 mAsk 2 h dT dF (fun h=>
 h.elim fun h1 h=>
 mBi 7 (bin_shl (t:=34) (q:=.u32) (q':=.i64) (i1:=1) h1) <|
 mFin 8 h) fun h=>
 mRet 8 h) fun h=>
 mRet 11 h
theorem enter (x0:Int) (φ:Int→Prop) (h :
 drossref02_Full.L1 x0 0 0 φ):∃ r,φ r∧C x0 r:=
 mEnt (fd:=Tryz.f30) (body:=B) (V:=W) (res:=res) <|
 mFin 9 h
end drossref02_Full
namespace closure_Valid
noncomputable def B:Code:=(Tryz.f60.body).getD .skip
def W:List Nat:=[0,1,4,6,12,15,16,17,18,19,29]
def res (r:Int):D×List D:=(.lit (.int .i64 r),[])
def C (x0:Int) (x1:List api_FD) (r:Int):Prop:=Ret env 60 [.lit (.int .i64 x0),.sl (x1.map enc_api_FD)] (res r).1 (res r).2
def L1 (x0:Int) (x1:List api_FD) (z0:Int) (φ:Int→Prop):Prop:=Pt env 60 W B [1,1,1,0,1,0] [(0,.lit (.int .i64 x0)),(1,.sl (x1.map enc_api_FD)),(16,.sl (x1.map enc_api_FD)),(17,.lit (.int .i64 ((x1.length:Int)))),(18,.lit (.int .i64 z0))] (Lv env 60 Tryz.f60 2 res φ)
theorem L1_step (x0:Int) (x1:List api_FD) (z0:Int) (φ:Int→Prop) (h :
 (if z0<(x1.length:Int) then
 ∃ a1,lget x1 z0=some a1 ∧
 0≤x0 ∧
 (if (shrw .u32 (bOr .u32 a1.Lhs a1.Rhs) x0)=0 then
 closure_Valid.L1 x0 x1 ((IntKind.wrap .i64 (z0+1))) φ
 else
 φ 1)
 else
 φ 0)):L1 x0 x1 z0 φ:=
 mIn <|
 mAsk 2 h dT dF (fun h=>
 mIx 4 enc_api_FD h fun a1 h2 h=>
 h.elim fun h3 h=>
 mBi 11 (bin_shr (t:=34) (q:=.u32) (q':=.i64) (i1:=(bOr .u32 a1.Lhs a1.Rhs)) h3) <|
 mAskN 0 h bne_t bne_f (fun h=>
 mRet 5 h) fun h=>
 mFin 7 h) fun h=>
 mRet 6 h
theorem enter (x0:Int) (x1:List api_FD) (φ:Int→Prop) (h :
 (if x0<0 then
 φ 7
 else
 (if 16<x0 then
 φ 7
 else
 (if 64<(x1.length:Int) then
 φ 3
 else
 closure_Valid.L1 x0 x1 0 φ)))):∃ r,φ r∧C x0 x1 r:=
 mEnt (fd:=Tryz.f60) (body:=B) (V:=W) (res:=res) <|
 mAsk 5 h dT dF (fun h=>
 mRet 9 h) fun h=>
 mAsk 2 h dT dF (fun h=>
 mRet 6 h) fun h=>
 mLen 6 enc_api_FD x1 <|
 mAsk 0 h dT dF (fun h=>
 mRet 5 h) fun h=>
 mLen 5 enc_api_FD x1 <|
 mFin 2 h
end closure_Valid
namespace drossref09_Valid
end drossref09_Valid
namespace math_bits_OnesCount32
noncomputable def B:Code:=(Tryz.f121.body).getD .skip
def W:List Nat:=[0,2]
def res (r:Int):D×List D:=(.lit (.int .i64 r),[])
def C (x0 r:Int):Prop:=Ret env 121 [.lit (.int .u32 x0)] (res r).1 (res r).2
theorem enter (x0:Int) (φ:Int→Prop) (h :
 ∃ b1,((0:Int)≤(shrw .u32 x0 24)∧((⟨#[0,1,1,2,1,2,2,3,1,2,2,3,2,3,3,4,1,2,2,3,2,3,3,4,2,3,3,4,3,4,4,5,1,2,2,3,2,3,3,4,2,3,3,4,3,4,4,5,2,3,3,4,3,4,4,5,3,4,4,5,4,5,5,6,1,2,2,3,2,3,3,4,2,3,3,4,3,4,4,5,2,3,3,4,3,4,4,5,3,4,4,5,4,5,5,6,2,3,3,4,3,4,4,5,3,4,4,5,4,5,5,6,3,4,4,5,4,5,5,6,4,5,5,6,5,6,6,7,1,2,2,3,2,3,3,4,2,3,3,4,3,4,4,5,2,3,3,4,3,4,4,5,3,4,4,5,4,5,5,6,2,3,3,4,3,4,4,5,3,4,4,5,4,5,5,6,3,4,4,5,4,5,5,6,4,5,5,6,5,6,6,7,2,3,3,4,3,4,4,5,3,4,4,5,4,5,5,6,3,4,4,5,4,5,5,6,4,5,5,6,5,6,6,7,3,4,4,5,4,5,5,6,4,5,5,6,5,6,6,7,4,5,5,6,5,6,6,7,5,6,6,7,6,7,7,8]⟩:ByteArray))[((shrw .u32 x0 24)).toNat]? = some b1) ∧
 ∃ b4,((0:Int)≤(bAnd .u32 (shrw .u32 x0 16) 255)∧((⟨#[0,1,1,2,1,2,2,3,1,2,2,3,2,3,3,4,1,2,2,3,2,3,3,4,2,3,3,4,3,4,4,5,1,2,2,3,2,3,3,4,2,3,3,4,3,4,4,5,2,3,3,4,3,4,4,5,3,4,4,5,4,5,5,6,1,2,2,3,2,3,3,4,2,3,3,4,3,4,4,5,2,3,3,4,3,4,4,5,3,4,4,5,4,5,5,6,2,3,3,4,3,4,4,5,3,4,4,5,4,5,5,6,3,4,4,5,4,5,5,6,4,5,5,6,5,6,6,7,1,2,2,3,2,3,3,4,2,3,3,4,3,4,4,5,2,3,3,4,3,4,4,5,3,4,4,5,4,5,5,6,2,3,3,4,3,4,4,5,3,4,4,5,4,5,5,6,3,4,4,5,4,5,5,6,4,5,5,6,5,6,6,7,2,3,3,4,3,4,4,5,3,4,4,5,4,5,5,6,3,4,4,5,4,5,5,6,4,5,5,6,5,6,6,7,3,4,4,5,4,5,5,6,4,5,5,6,5,6,6,7,4,5,5,6,5,6,6,7,5,6,6,7,6,7,7,8]⟩:ByteArray))[((bAnd .u32 (shrw .u32 x0 16) 255)).toNat]? = some b4) ∧
 ∃ b7,((0:Int)≤(bAnd .u32 (shrw .u32 x0 8) 255)∧((⟨#[0,1,1,2,1,2,2,3,1,2,2,3,2,3,3,4,1,2,2,3,2,3,3,4,2,3,3,4,3,4,4,5,1,2,2,3,2,3,3,4,2,3,3,4,3,4,4,5,2,3,3,4,3,4,4,5,3,4,4,5,4,5,5,6,1,2,2,3,2,3,3,4,2,3,3,4,3,4,4,5,2,3,3,4,3,4,4,5,3,4,4,5,4,5,5,6,2,3,3,4,3,4,4,5,3,4,4,5,4,5,5,6,3,4,4,5,4,5,5,6,4,5,5,6,5,6,6,7,1,2,2,3,2,3,3,4,2,3,3,4,3,4,4,5,2,3,3,4,3,4,4,5,3,4,4,5,4,5,5,6,2,3,3,4,3,4,4,5,3,4,4,5,4,5,5,6,3,4,4,5,4,5,5,6,4,5,5,6,5,6,6,7,2,3,3,4,3,4,4,5,3,4,4,5,4,5,5,6,3,4,4,5,4,5,5,6,4,5,5,6,5,6,6,7,3,4,4,5,4,5,5,6,4,5,5,6,5,6,6,7,4,5,5,6,5,6,6,7,5,6,6,7,6,7,7,8]⟩:ByteArray))[((bAnd .u32 (shrw .u32 x0 8) 255)).toNat]? = some b7) ∧
 ∃ b10,((0:Int)≤(bAnd .u32 x0 255)∧((⟨#[0,1,1,2,1,2,2,3,1,2,2,3,2,3,3,4,1,2,2,3,2,3,3,4,2,3,3,4,3,4,4,5,1,2,2,3,2,3,3,4,2,3,3,4,3,4,4,5,2,3,3,4,3,4,4,5,3,4,4,5,4,5,5,6,1,2,2,3,2,3,3,4,2,3,3,4,3,4,4,5,2,3,3,4,3,4,4,5,3,4,4,5,4,5,5,6,2,3,3,4,3,4,4,5,3,4,4,5,4,5,5,6,3,4,4,5,4,5,5,6,4,5,5,6,5,6,6,7,1,2,2,3,2,3,3,4,2,3,3,4,3,4,4,5,2,3,3,4,3,4,4,5,3,4,4,5,4,5,5,6,2,3,3,4,3,4,4,5,3,4,4,5,4,5,5,6,3,4,4,5,4,5,5,6,4,5,5,6,5,6,6,7,2,3,3,4,3,4,4,5,3,4,4,5,4,5,5,6,3,4,4,5,4,5,5,6,4,5,5,6,5,6,6,7,3,4,4,5,4,5,5,6,4,5,5,6,5,6,6,7,4,5,5,6,5,6,6,7,5,6,6,7,6,7,7,8]⟩:ByteArray))[((bAnd .u32 x0 255)).toNat]? = some b10) ∧
 φ ((IntKind.wrap .i64 (IntKind.wrap .u8 ((IntKind.wrap .u8 ((IntKind.wrap .u8 ((u8i b1)+(u8i b4)))+(u8i b7)))+(u8i b10)))))):∃ r,φ r∧C x0 r:=
 mEnt (fd:=Tryz.f121) (body:=B) (V:=W) (res:=res) <|
 mSt 6 h fun b1 h=>
 mSt 3 h fun b4 h=>
 mSt 4 h fun b7 h=>
 mSt 3 h fun b10 h=>
 mRet 4 h
end math_bits_OnesCount32
namespace attrset_Size
noncomputable def B:Code:=(Tryz.f93.body).getD .skip
def W:List Nat:=[0,2]
def res (r:Int):D×List D:=(.lit (.int .i64 r),[])
def C (x0 r:Int):Prop:=Ret env 93 [.lit (.int .u32 x0)] (res r).1 (res r).2
theorem enter (x0:Int) (φ:Int→Prop) (h :
 ∃ r1:Int,math_bits_OnesCount32.C x0 r1 ∧
 φ r1):∃ r,φ r∧C x0 r:=
 mEnt (fd:=Tryz.f93) (body:=B) (V:=W) (res:=res) <|
 mCal 5 h (fun _ h=>h) fun r1 _ h=>
 mRet 2 h
end attrset_Size
namespace cmp_isNaN_api_Set
noncomputable def B:Code:=(Tryz.f160.body).getD .skip
def W:List Nat:=[0,2]
def res (r:Bool):D×List D:=(.lit (.bool r),[])
def C (x0:Int) (r:Bool):Prop:=Ret env 160 [.lit (.int .u32 x0)] (res r).1 (res r).2
theorem enter (x0:Int) (φ:Bool→Prop) (h :
 φ ((x0 != x0))):∃ r,φ r∧C x0 r:=
 mEnt (fd:=Tryz.f160) (body:=B) (V:=W) (res:=res) <|
 mRet 9 h
end cmp_isNaN_api_Set
namespace cmp_Compare_api_Set
noncomputable def B:Code:=(Tryz.f145.body).getD .skip
def W:List Nat:=[0,1,4,5,6,11,12,13,16,19]
def res (r:Int):D×List D:=(.lit (.int .i64 r),[])
def C (x0 x1 r:Int):Prop:=Ret env 145 [.lit (.int .u32 x0),.lit (.int .u32 x1)] (res r).1 (res r).2
theorem enter (x0 x1:Int) (φ:Int→Prop) (h :
 ∃ r1:Bool,cmp_isNaN_api_Set.C x0 r1 ∧
 ∃ r2:Bool,cmp_isNaN_api_Set.C x1 r2 ∧
 (if r1=true then
 (if r2=true then
 φ 0
 else
 φ ((-1)))
 else
 (if r2=true then
 φ 1
 else
 (if x0<x1 then
 φ ((-1))
 else
 (if x1<x0 then
 φ 1
 else
 φ 0))))):∃ r,φ r∧C x0 x1 r:=
 mEnt (fd:=Tryz.f145) (body:=B) (V:=W) (res:=res) <|
 mCal 5 h (fun _ h=>h) fun r1 _ h=>
 mCal 4 h (fun _ h=>h) fun r2 _ h=>
 mAsk 3 h id fls (fun h=>
 mAsk 3 h id fls (fun h=>
 mRet 5 h) fun h=>
 mRet 6 h) fun h=>
 mAsk 4 h id fls (fun h=>
 mRet 5 h) fun h=>
 mAsk 6 h dT dF (fun h=>
 mRet 5 h) fun h=>
 mAsk 6 h dT dF (fun h=>
 mRet 5 h) fun h=>
 mRet 6 h
end cmp_Compare_api_Set
namespace cmp_isNaN_int
noncomputable def B:Code:=(Tryz.f159.body).getD .skip
def W:List Nat:=[0,2]
def res (r:Bool):D×List D:=(.lit (.bool r),[])
def C (x0:Int) (r:Bool):Prop:=Ret env 159 [.lit (.int .i64 x0)] (res r).1 (res r).2
theorem enter (x0:Int) (φ:Bool→Prop) (h :
 φ ((x0 != x0))):∃ r,φ r∧C x0 r:=
 mEnt (fd:=Tryz.f159) (body:=B) (V:=W) (res:=res) <|
 mRet 9 h
end cmp_isNaN_int
namespace cmp_Compare_int
noncomputable def B:Code:=(Tryz.f144.body).getD .skip
def W:List Nat:=[0,1,4,5,6,11,12,13,16,19]
def res (r:Int):D×List D:=(.lit (.int .i64 r),[])
def C (x0 x1 r:Int):Prop:=Ret env 144 [.lit (.int .i64 x0),.lit (.int .i64 x1)] (res r).1 (res r).2
theorem enter (x0 x1:Int) (φ:Int→Prop) (h :
 ∃ r1:Bool,cmp_isNaN_int.C x0 r1 ∧
 ∃ r2:Bool,cmp_isNaN_int.C x1 r2 ∧
 (if r1=true then
 (if r2=true then
 φ 0
 else
 φ ((-1)))
 else
 (if r2=true then
 φ 1
 else
 (if x0<x1 then
 φ ((-1))
 else
 (if x1<x0 then
 φ 1
 else
 φ 0))))):∃ r,φ r∧C x0 x1 r:=
 mEnt (fd:=Tryz.f144) (body:=B) (V:=W) (res:=res) <|
 mCal 5 h (fun _ h=>h) fun r1 _ h=>
 mCal 4 h (fun _ h=>h) fun r2 _ h=>
 mAsk 3 h id fls (fun h=>
 mAsk 3 h id fls (fun h=>
 mRet 5 h) fun h=>
 mRet 6 h) fun h=>
 mAsk 4 h id fls (fun h=>
 mRet 5 h) fun h=>
 mAsk 6 h dT dF (fun h=>
 mRet 5 h) fun h=>
 mAsk 6 h dT dF (fun h=>
 mRet 5 h) fun h=>
 mRet 6 h
end cmp_Compare_int
namespace cmp_Or_int
noncomputable def B:Code:=(Tryz.f143.body).getD .skip
def W:List Nat:=[0,2,3,5,6,7,8,9,14]
def res (r:Int):D×List D:=(.lit (.int .i64 r),[])
def C (x0:List Int) (r:Int):Prop:=Ret env 143 [.sl (x0.map (eI .i64))] (res r).1 (res r).2
def L1 (x0:List Int) (z0:Int) (φ:Int→Prop):Prop:=Pt env 143 W B [1,1,0,1,0] [(0,.sl (x0.map (eI .i64))),(3,.lit (.int .i64 0)),(6,.sl (x0.map (eI .i64))),(7,.lit (.int .i64 ((x0.length:Int)))),(8,.lit (.int .i64 z0))] (Lv env 143 Tryz.f143 1 res φ)
theorem L1_step (x0:List Int) (z0:Int) (φ:Int→Prop) (h :
 (if z0<(x0.length:Int) then
 ∃ a1,lget x0 z0=some a1 ∧
 (if a1=0 then
 cmp_Or_int.L1 x0 ((IntKind.wrap .i64 (z0+1))) φ
 else
 φ a1)
 else
 φ 0)):L1 x0 z0 φ:=
 mIn <|
 mAsk 2 h dT dF (fun h=>
 mIx 4 (eI .i64) h fun a1 h2 h=>
 mAskN 6 h bne_t bne_f (fun h=>
 mRet 6 h) fun h=>
 mFin 7 h) fun h=>
 mRet 7 h
theorem enter (x0:List Int) (φ:Int→Prop) (h :
 cmp_Or_int.L1 x0 0 φ):∃ r,φ r∧C x0 r:=
 mEnt (fd:=Tryz.f143) (body:=B) (V:=W) (res:=res) <|
 mLen 8 (eI .i64) x0 <|
 mFin 2 h
end cmp_Or_int
namespace attrset_compare
noncomputable def B:Code:=(Tryz.f123.body).getD .skip
def W:List Nat:=[0,1,4]
def res (r:Int):D×List D:=(.lit (.int .i64 r),[])
def C (x0 x1 r:Int):Prop:=Ret env 123 [.lit (.int .u32 x0),.lit (.int .u32 x1)] (res r).1 (res r).2
theorem enter (x0 x1:Int) (φ:Int→Prop) (h :
 ∃ r1:Int,attrset_Size.C x0 r1 ∧
 ∃ r2:Int,attrset_Size.C x1 r2 ∧
 ∃ r3:Int,cmp_Compare_int.C r1 r2 r3 ∧
 ∃ r4:Int,cmp_Compare_api_Set.C x0 x1 r4 ∧
 ∃ r5:Int,cmp_Or_int.C ([r3,r4]) r5 ∧
 φ r5):∃ r,φ r∧C x0 x1 r:=
 mEnt (fd:=Tryz.f123) (body:=B) (V:=W) (res:=res) <|
 mCal 5 h (fun _ h=>h) fun r1 _ h=>
 mCal 1 h (fun _ h=>h) fun r2 _ h=>
 mCal 0 h (fun _ h=>h) fun r3 _ h=>
 mCal 2 h (fun _ h=>h) fun r4 _ h=>
 mCal 1 h (fun _ h=>h) (hr:=by exact (pr_snap (snap_ow (s:=13) (ps:=[]) (l:=[r3,r4]) (e:=(eI .i64)) (e':=(eI .i64)) (fun _=>rfl) (by kernel_rfl)) pr_nil)) fun r5 _ h=>
 mRet 2 h
end attrset_compare
namespace slices_insertionSortCmpFunc_api_Set_attrset_compare
noncomputable def B:Code:=(Tryz.f149.body).getD .skip
def W:List Nat:=[0,1,2,3,8,9,14,34,1000000]
def res (r:List Int):D×List D:=(.tup [],[.own (r.map (eI .u32))])
def C (x1 x2:Int) (k0_0 r:List Int):Prop:=Ret env 149 [.own (k0_0.map (eI .u32)),.lit (.int .i64 x1),.lit (.int .i64 x2),.fn 123 []] (res r).1 (res r).2
def L1 (x1 x2 z0:Int) (k0_0:List Int) (φ:List Int→Prop):Prop:=Pt env 149 W B [1,0] [(0,.alias 1000000 []),(1,.lit (.int .i64 x1)),(2,.lit (.int .i64 x2)),(3,.fn 123 []),(8,.lit (.int .i64 z0)),(1000000,.own (k0_0.map (eI .u32)))] (Lv env 149 Tryz.f149 4 res φ)
def L2 (x1 x2:Int) (z0 z1:Int) (k0_0:List Int) (φ:List Int→Prop):Prop:=Pt env 149 W B [1,0,0,1,0,0,1,0] [(0,.alias 1000000 []),(1,.lit (.int .i64 x1)),(2,.lit (.int .i64 x2)),(3,.fn 123 []),(8,.lit (.int .i64 z0)),(9,.lit (.int .i64 z1)),(1000000,.own (k0_0.map (eI .u32)))] (Lv env 149 Tryz.f149 4 res φ)
def L3 (x1 x2 z0:Int) (k0_0:List Int) (φ:List Int→Prop):Prop:=Pt env 149 W B [1,0,0,1,1] [(0,.alias 1000000 []),(1,.lit (.int .i64 x1)),(2,.lit (.int .i64 x2)),(3,.fn 123 []),(8,.lit (.int .i64 z0)),(1000000,.own (k0_0.map (eI .u32)))] (Lv env 149 Tryz.f149 4 res φ)
theorem L1_step (x1 x2 z0:Int) (k0_0:List Int) (φ:List Int→Prop) (h :
 (if z0<x2 then
 slices_insertionSortCmpFunc_api_Set_attrset_compare.L2 x1 x2 z0 z0 k0_0 φ
 else
 φ k0_0)):L1 x1 x2 z0 k0_0 φ:=
 mIn <|
 mAsk 4 h dT dF (fun h=>
 mFin 7 h) fun h=>
 mRet 2 h
theorem L2_step (x1 x2:Int) (z0 z1:Int) (k0_0:List Int) (φ:List Int→Prop) (h :
 (if x1<z1 then
 ∃ a1,lget k0_0 z1=some a1 ∧
 ∃ a3,lget k0_0 ((IntKind.wrap .i64 (z1-1)))=some a3 ∧
 ∃ r5:Int,attrset_compare.C a1 a3 r5 ∧
 (if r5<0 then
 ∃ a6,lget ((lset k0_0 z1 a3)) ((IntKind.wrap .i64 (z1-1)))=some a6 ∧
 slices_insertionSortCmpFunc_api_Set_attrset_compare.L2 x1 x2 z0 ((IntKind.wrap .i64 (z1-1))) ((lset (lset k0_0 z1 a3) (IntKind.wrap .i64 (z1-1)) a1)) φ
 else
 slices_insertionSortCmpFunc_api_Set_attrset_compare.L3 x1 x2 z0 k0_0 φ)
 else
 slices_insertionSortCmpFunc_api_Set_attrset_compare.L3 x1 x2 z0 k0_0 φ)):L2 x1 x2 z0 z1 k0_0 φ:=
 mIn <|
 mAsk 4 h dT dF (fun h=>
 mIy 4 (eI .u32) h fun a1 h2 h=>
 mLd 0 (eI .u32) h2 <|
 mIy 3 (eI .u32) h fun a3 h4 h=>
 mLd 0 (eI .u32) h4 <|
 mCal 0 h (fun _ h=>h) fun r5 _ h=>
 mAsk 0 h dT dF (fun h=>
 mIyf 13 (eI .u32) h4 <|
 mLd 0 (eI .u32) h4 <|
 mIyf 2 (eI .u32) h2 <|
 mLd 0 (eI .u32) h2 <|
 mIyf 0 (eI .u32) h2 <|
 mStoL 0 (eI .u32) a3 h2 <|
 mIy 0 (eI .u32) h fun a6 h7 h=>
 mSto 0 (eI .u32) a1 h7 <|
 mFin 6 h) fun h=>
 mFin 4 h) fun h=>
 mFin 17 h
theorem L3_step (x1 x2 z0:Int) (k0_0:List Int) (φ:List Int→Prop) (h :
 slices_insertionSortCmpFunc_api_Set_attrset_compare.L1 x1 x2 ((IntKind.wrap .i64 (z0+1))) k0_0 φ):L3 x1 x2 z0 k0_0 φ:=
 mIn <|
 mFin 5 h
theorem enter (x1 x2:Int) (k0_0:List Int) (φ:List Int→Prop) (h :
 slices_insertionSortCmpFunc_api_Set_attrset_compare.L1 x1 x2 ((IntKind.wrap .i64 (x1+1))) k0_0 φ):∃ r,φ r∧C x1 x2 k0_0 r:=
 mEnt (fd:=Tryz.f149) (body:=B) (V:=W) (res:=res) <|
 mFin 5 h
end slices_insertionSortCmpFunc_api_Set_attrset_compare
namespace slices_siftDownCmpFunc_api_Set_attrset_compare
noncomputable def B:Code:=(Tryz.f161.body).getD .skip
def W:List Nat:=[0,1,2,3,4,10,11,18,40,58,1000000]
def res (r:List Int):D×List D:=(.tup [],[.own (r.map (eI .u32))])
def C (x1 x2 x3:Int) (k0_0 r:List Int):Prop:=Ret env 161 [.own (k0_0.map (eI .u32)),.lit (.int .i64 x1),.lit (.int .i64 x2),.lit (.int .i64 x3),.fn 123 []] (res r).1 (res r).2
def L1 (x2 x3 x1:Int) (k0_0:List Int) (φ:List Int→Prop):Prop:=Pt env 161 W B [1,0] [(0,.alias 1000000 []),(2,.lit (.int .i64 x2)),(3,.lit (.int .i64 x3)),(4,.fn 123 []),(10,.lit (.int .i64 x1)),(1000000,.own (k0_0.map (eI .u32)))] (Lv env 161 Tryz.f161 5 res φ)
def L2 (x2 x3:Int) (x1 z0:Int) (k0_0:List Int) (φ:List Int→Prop):Prop:=Pt env 161 W B [1,0,0,0,1,1,1,0,0] [(0,.alias 1000000 []),(2,.lit (.int .i64 x2)),(3,.lit (.int .i64 x3)),(4,.fn 123 []),(10,.lit (.int .i64 x1)),(11,.lit (.int .i64 z0)),(1000000,.own (k0_0.map (eI .u32)))] (Lv env 161 Tryz.f161 5 res φ)
theorem L1_step (x2 x3 x1:Int) (k0_0:List Int) (φ:List Int→Prop) (h :
 (if x2≤(IntKind.wrap .i64 ((IntKind.wrap .i64 (2*x1))+1)) then
 φ k0_0
 else
 (if (IntKind.wrap .i64 ((IntKind.wrap .i64 ((IntKind.wrap .i64 (2*x1))+1))+1))<x2 then
 ∃ a1,lget k0_0 ((IntKind.wrap .i64 (x3+(IntKind.wrap .i64 ((IntKind.wrap .i64 (2*x1))+1)))))=some a1 ∧
 ∃ a3,lget k0_0 ((IntKind.wrap .i64 ((IntKind.wrap .i64 (x3+(IntKind.wrap .i64 ((IntKind.wrap .i64 (2*x1))+1))))+1)))=some a3 ∧
 ∃ r5:Int,attrset_compare.C a1 a3 r5 ∧
 (if r5<0 then
 slices_siftDownCmpFunc_api_Set_attrset_compare.L2 x2 x3 x1 ((IntKind.wrap .i64 ((IntKind.wrap .i64 ((IntKind.wrap .i64 (2*x1))+1))+1))) k0_0 φ
 else
 slices_siftDownCmpFunc_api_Set_attrset_compare.L2 x2 x3 x1 ((IntKind.wrap .i64 ((IntKind.wrap .i64 (2*x1))+1))) k0_0 φ)
 else
 slices_siftDownCmpFunc_api_Set_attrset_compare.L2 x2 x3 x1 ((IntKind.wrap .i64 ((IntKind.wrap .i64 (2*x1))+1))) k0_0 φ))):L1 x2 x3 x1 k0_0 φ:=
 mIn <|
 mAsk 10 h dT dF (fun h=>
 mRet 2 h) fun h=>
 mAsk 7 h dT dF (fun h=>
 mIy 6 (eI .u32) h fun a1 h2 h=>
 mLd 0 (eI .u32) h2 <|
 mIy 5 (eI .u32) h fun a3 h4 h=>
 mLd 0 (eI .u32) h4 <|
 mCal 0 h (fun _ h=>h) fun r5 _ h=>
 mAsk 0 h dT dF (fun h=>
 mFin 8 h) fun h=>
 mFin 4 h) fun h=>
 mFin 21 h
theorem L2_step (x2 x3:Int) (x1 z0:Int) (k0_0:List Int) (φ:List Int→Prop) (h :
 ∃ a6,lget k0_0 ((IntKind.wrap .i64 (x3+x1)))=some a6 ∧
 ∃ a8,lget k0_0 ((IntKind.wrap .i64 (x3+z0)))=some a8 ∧
 ∃ r10:Int,attrset_compare.C a6 a8 r10 ∧
 (if r10<0 then
 ∃ a11,lget ((lset k0_0 (IntKind.wrap .i64 (x3+x1)) a8)) ((IntKind.wrap .i64 (x3+z0)))=some a11 ∧
 slices_siftDownCmpFunc_api_Set_attrset_compare.L1 x2 x3 z0 ((lset (lset k0_0 (IntKind.wrap .i64 (x3+x1)) a8) (IntKind.wrap .i64 (x3+z0)) a6)) φ
 else
 φ k0_0)):L2 x2 x3 x1 z0 k0_0 φ:=
 mIn <|
 mIy 6 (eI .u32) h fun a6 h7 h=>
 mLd 0 (eI .u32) h7 <|
 mIy 4 (eI .u32) h fun a8 h9 h=>
 mLd 0 (eI .u32) h9 <|
 mCal 0 h (fun _ h=>h) fun r10 _ h=>
 mAsk 0 h dT dF (fun h=>
 mIyf 17 (eI .u32) h9 <|
 mLd 0 (eI .u32) h9 <|
 mIyf 4 (eI .u32) h7 <|
 mLd 0 (eI .u32) h7 <|
 mIyf 0 (eI .u32) h7 <|
 mStoL 0 (eI .u32) a8 h7 <|
 mIy 0 (eI .u32) h fun a11 h12 h=>
 mSto 0 (eI .u32) a6 h12 <|
 mFin 5 h) fun h=>
 mRet 3 h
theorem enter (x1 x2 x3:Int) (k0_0:List Int) (φ:List Int→Prop) (h :
 slices_siftDownCmpFunc_api_Set_attrset_compare.L1 x2 x3 x1 k0_0 φ):∃ r,φ r∧C x1 x2 x3 k0_0 r:=
 mEnt (fd:=Tryz.f161) (body:=B) (V:=W) (res:=res) <|
 mFin 4 h
end slices_siftDownCmpFunc_api_Set_attrset_compare
namespace slices_heapSortCmpFunc_api_Set_attrset_compare
noncomputable def B:Code:=(Tryz.f150.body).getD .skip
def W:List Nat:=[0,1,2,3,8,9,10,11,12,21,33,1000000]
def res (r:List Int):D×List D:=(.tup [],[.own (r.map (eI .u32))])
def C (x1 x2:Int) (k0_0 r:List Int):Prop:=Ret env 150 [.own (k0_0.map (eI .u32)),.lit (.int .i64 x1),.lit (.int .i64 x2),.fn 123 []] (res r).1 (res r).2
def L1 (x1 z0 z1:Int) (k0_0:List Int) (φ:List Int→Prop):Prop:=Pt env 150 W B [1,1,1,0,1,0] [(0,.alias 1000000 []),(3,.fn 123 []),(8,.lit (.int .i64 x1)),(9,.lit (.int .i64 0)),(10,.lit (.int .i64 z0)),(11,.lit (.int .i64 z1)),(1000000,.own (k0_0.map (eI .u32)))] (Lv env 150 Tryz.f150 4 res φ)
def L2 (x1 z0:Int) (k0_0:List Int) (φ:List Int→Prop):Prop:=Pt env 150 W B [1,1,1,1,1,0] [(0,.alias 1000000 []),(3,.fn 123 []),(8,.lit (.int .i64 x1)),(9,.lit (.int .i64 0)),(12,.lit (.int .i64 z0)),(1000000,.own (k0_0.map (eI .u32)))] (Lv env 150 Tryz.f150 4 res φ)
theorem L1_step (x1 z0 z1:Int) (k0_0:List Int) (φ:List Int→Prop) (h :
 (if 0≤z1 then
 ∃ r1:List Int,slices_siftDownCmpFunc_api_Set_attrset_compare.C z1 z0 x1 k0_0 r1 ∧
 slices_heapSortCmpFunc_api_Set_attrset_compare.L1 x1 z0 ((IntKind.wrap .i64 (z1-1))) r1 φ
 else
 slices_heapSortCmpFunc_api_Set_attrset_compare.L2 x1 ((IntKind.wrap .i64 (z0-1))) k0_0 φ)):L1 x1 z0 z1 k0_0 φ:=
 mIn <|
 mAsk 3 h dT dF (fun h=>
 mCal 9 h (fun _ h=>h) (hf:=(fun _=>clF_flat1 (flat_tup flts_nil) (flat_ow (e:=(eI .u32)) (fun _=>rfl)))) fun r1 _ h=>
 mFin 6 h) fun h=>
 mFin 8 h
theorem L2_step (x1 z0:Int) (k0_0:List Int) (φ:List Int→Prop) (h :
 (if 0≤z0 then
 ∃ a2,lget k0_0 ((IntKind.wrap .i64 (x1+z0)))=some a2 ∧
 ∃ a4,lget k0_0 x1=some a4 ∧
 ∃ a6,lget ((lset k0_0 x1 a2)) ((IntKind.wrap .i64 (x1+z0)))=some a6 ∧
 ∃ r8:List Int,slices_siftDownCmpFunc_api_Set_attrset_compare.C 0 z0 x1 ((lset (lset k0_0 x1 a2) (IntKind.wrap .i64 (x1+z0)) a4)) r8 ∧
 slices_heapSortCmpFunc_api_Set_attrset_compare.L2 x1 ((IntKind.wrap .i64 (z0-1))) r8 φ
 else
 φ k0_0)):L2 x1 z0 k0_0 φ:=
 mIn <|
 mAsk 3 h dT dF (fun h=>
 mIy 14 (eI .u32) h fun a2 h3 h=>
 mLd 0 (eI .u32) h3 <|
 mIy 2 (eI .u32) h fun a4 h5 h=>
 mLd 0 (eI .u32) h5 <|
 mIyf 0 (eI .u32) h5 <|
 mStoL 0 (eI .u32) a2 h5 <|
 mIy 0 (eI .u32) h fun a6 h7 h=>
 mSto 0 (eI .u32) a4 h7 <|
 mCal 7 h (fun _ h=>h) (hf:=(fun _=>clF_flat1 (flat_tup flts_nil) (flat_ow (e:=(eI .u32)) (fun _=>rfl)))) fun r8 _ h=>
 mFin 6 h) fun h=>
 mRet 2 h
theorem enter (x1 x2:Int) (k0_0:List Int) (φ:List Int→Prop) (h :
 slices_heapSortCmpFunc_api_Set_attrset_compare.L1 x1 ((IntKind.wrap .i64 (x2-x1))) ((IntKind.wrap .i64 (Int.tdiv (IntKind.wrap .i64 ((IntKind.wrap .i64 (x2-x1))-1)) 2))) k0_0 φ):∃ r,φ r∧C x1 x2 k0_0 r:=
 mEnt (fd:=Tryz.f150) (body:=B) (V:=W) (res:=res) <|
 mFin 19 h
end slices_heapSortCmpFunc_api_Set_attrset_compare
namespace slices_partialInsertionSortCmpFunc_api_Set_attrset_compare
noncomputable def B:Code:=(Tryz.f154.body).getD .skip
def W:List Nat:=[0,1,2,3,8,9,10,11,12,16,36,41,45,65,69,84,104,109,124,1000000]
def res (r:Bool×List Int):D×List D:=(.lit (.bool r.1),[.own (r.2.map (eI .u32))])
def C (x1 x2:Int) (k0_0:List Int) (r:Bool×List Int):Prop:=Ret env 154 [.own (k0_0.map (eI .u32)),.lit (.int .i64 x1),.lit (.int .i64 x2),.fn 123 []] (res r).1 (res r).2
def L1 (x1 x2:Int) (z0 z1:Int) (k0_0:List Int) (φ:Bool×List Int→Prop):Prop:=Pt env 154 W B [1,1,0,1,0] [(0,.alias 1000000 []),(1,.lit (.int .i64 x1)),(2,.lit (.int .i64 x2)),(3,.fn 123 []),(9,.lit (.int .i64 z0)),(10,.lit (.int .i64 z1)),(1000000,.own (k0_0.map (eI .u32)))] (Lv env 154 Tryz.f154 4 res φ)
def L2 (x1 x2:Int) (z0 z1:Int) (k0_0:List Int) (φ:Bool×List Int→Prop):Prop:=Pt env 154 W B [1,1,0,1,0,0,1,0,0,0,0] [(0,.alias 1000000 []),(1,.lit (.int .i64 x1)),(2,.lit (.int .i64 x2)),(3,.fn 123 []),(9,.lit (.int .i64 z0)),(10,.lit (.int .i64 z1)),(1000000,.own (k0_0.map (eI .u32)))] (Lv env 154 Tryz.f154 4 res φ)
def L5 (x1 x2:Int) (z0 z1:Int) (k0_0:List Int) (φ:Bool×List Int→Prop):Prop:=Pt env 154 W B [1,1,0,1,0,0,1,0,0,1,0,0] [(0,.alias 1000000 []),(1,.lit (.int .i64 x1)),(2,.lit (.int .i64 x2)),(3,.fn 123 []),(9,.lit (.int .i64 z0)),(10,.lit (.int .i64 z1)),(1000000,.own (k0_0.map (eI .u32)))] (Lv env 154 Tryz.f154 4 res φ)
def L3 (x1 x2:Int) (z0 z1 z2:Int) (z3:List Int) (φ:Bool×List Int→Prop):Prop:=Pt env 154 W B [1,1,0,1,0,0,1,0,0,1,1,1,1,0,1,0,1,0] [(0,.alias 1000000 []),(1,.lit (.int .i64 x1)),(2,.lit (.int .i64 x2)),(3,.fn 123 []),(9,.lit (.int .i64 z0)),(10,.lit (.int .i64 z1)),(11,.lit (.int .i64 z2)),(1000000,.own (z3.map (eI .u32)))] (Lv env 154 Tryz.f154 4 res φ)
def L6 (x1 x2:Int) (z0 z1:Int) (z2:List Int) (φ:Bool×List Int→Prop):Prop:=Pt env 154 W B [1,1,0,1,0,0,1,0,0,1,1,1,1,1,0] [(0,.alias 1000000 []),(1,.lit (.int .i64 x1)),(2,.lit (.int .i64 x2)),(3,.fn 123 []),(9,.lit (.int .i64 z0)),(10,.lit (.int .i64 z1)),(1000000,.own (z2.map (eI .u32)))] (Lv env 154 Tryz.f154 4 res φ)
def L4 (x1 x2:Int) (z0 z1 z2:Int) (z3:List Int) (φ:Bool×List Int→Prop):Prop:=Pt env 154 W B [1,1,0,1,0,0,1,0,0,1,1,1,1,1,1,0,1,0] [(0,.alias 1000000 []),(1,.lit (.int .i64 x1)),(2,.lit (.int .i64 x2)),(3,.fn 123 []),(9,.lit (.int .i64 z0)),(10,.lit (.int .i64 z1)),(12,.lit (.int .i64 z2)),(1000000,.own (z3.map (eI .u32)))] (Lv env 154 Tryz.f154 4 res φ)
def L7 (x1 x2:Int) (z0 z1:Int) (z2:List Int) (φ:Bool×List Int→Prop):Prop:=Pt env 154 W B [1,1,0,1,0,0,1,1] [(0,.alias 1000000 []),(1,.lit (.int .i64 x1)),(2,.lit (.int .i64 x2)),(3,.fn 123 []),(9,.lit (.int .i64 z0)),(10,.lit (.int .i64 z1)),(1000000,.own (z2.map (eI .u32)))] (Lv env 154 Tryz.f154 4 res φ)
theorem L1_step (x1 x2:Int) (z0 z1:Int) (k0_0:List Int) (φ:Bool×List Int→Prop) (h :
 (if z1<5 then
 slices_partialInsertionSortCmpFunc_api_Set_attrset_compare.L2 x1 x2 z0 z1 k0_0 φ
 else
 φ ((false,k0_0)))):L1 x1 x2 z0 z1 k0_0 φ:=
 mIn <|
 mAsk 3 h dT dF (fun h=>
 mFin 3 h) fun h=>
 mRet 6 h
theorem L2_step (x1 x2:Int) (z0 z1:Int) (k0_0:List Int) (φ:Bool×List Int→Prop) (h :
 (if z0<x2 then
 ∃ a1,lget k0_0 z0=some a1 ∧
 ∃ a3,lget k0_0 ((IntKind.wrap .i64 (z0-1)))=some a3 ∧
 ∃ r5:Int,attrset_compare.C a1 a3 r5 ∧
 (if r5<0 then
 slices_partialInsertionSortCmpFunc_api_Set_attrset_compare.L5 x1 x2 z0 z1 k0_0 φ
 else
 slices_partialInsertionSortCmpFunc_api_Set_attrset_compare.L2 x1 x2 ((IntKind.wrap .i64 (z0+1))) z1 k0_0 φ)
 else
 slices_partialInsertionSortCmpFunc_api_Set_attrset_compare.L5 x1 x2 z0 z1 k0_0 φ)):L2 x1 x2 z0 z1 k0_0 φ:=
 mIn <|
 mAsk 4 h dT dF (fun h=>
 mIy 4 (eI .u32) h fun a1 h2 h=>
 mLd 0 (eI .u32) h2 <|
 mIy 3 (eI .u32) h fun a3 h4 h=>
 mLd 0 (eI .u32) h4 <|
 mCal 0 h (fun _ h=>h) fun r5 _ h=>
 mAsk 0 h dT dF (fun h=>
 mFin 5 h) fun h=>
 mFin 10 h) fun h=>
 mFin 18 h
theorem L5_step (x1 x2:Int) (z0 z1:Int) (k0_0:List Int) (φ:Bool×List Int→Prop) (h :
 (if z0=x2 then
 φ ((true,k0_0))
 else
 (if (IntKind.wrap .i64 (x2-x1))<50 then
 φ ((false,k0_0))
 else
 ∃ a6,lget k0_0 ((IntKind.wrap .i64 (z0-1)))=some a6 ∧
 ∃ a8,lget k0_0 z0=some a8 ∧
 ∃ a10,lget ((lset k0_0 z0 a6)) ((IntKind.wrap .i64 (z0-1)))=some a10 ∧
 (if 2≤(IntKind.wrap .i64 (z0-x1)) then
 slices_partialInsertionSortCmpFunc_api_Set_attrset_compare.L3 x1 x2 z0 z1 ((IntKind.wrap .i64 (z0-1))) ((lset (lset k0_0 z0 a6) (IntKind.wrap .i64 (z0-1)) a8)) φ
 else
 slices_partialInsertionSortCmpFunc_api_Set_attrset_compare.L6 x1 x2 z0 z1 ((lset (lset k0_0 z0 a6) (IntKind.wrap .i64 (z0-1)) a8)) φ)))):L5 x1 x2 z0 z1 k0_0 φ:=
 mIn <|
 mAsk 3 h beq_t beq_f (fun h=>
 mRet 5 h) fun h=>
 mAsk 7 h dT dF (fun h=>
 mRet 5 h) fun h=>
 mIy 12 (eI .u32) h fun a6 h7 h=>
 mLd 0 (eI .u32) h7 <|
 mIy 2 (eI .u32) h fun a8 h9 h=>
 mLd 0 (eI .u32) h9 <|
 mIyf 0 (eI .u32) h9 <|
 mStoL 0 (eI .u32) a6 h9 <|
 mIy 0 (eI .u32) h fun a10 h11 h=>
 mSto 0 (eI .u32) a8 h11 <|
 mAsk 5 h dT dF (fun h=>
 mFin 7 h) fun h=>
 mFin 3 h
theorem L3_step (x1 x2:Int) (z0 z1 z2:Int) (z3:List Int) (φ:Bool×List Int→Prop) (h :
 (if 1≤z2 then
 ∃ a12,lget z3 z2=some a12 ∧
 ∃ a14,lget z3 ((IntKind.wrap .i64 (z2-1)))=some a14 ∧
 ∃ r16:Int,attrset_compare.C a12 a14 r16 ∧
 (if r16<0 then
 ∃ a17,lget ((lset z3 z2 a14)) ((IntKind.wrap .i64 (z2-1)))=some a17 ∧
 slices_partialInsertionSortCmpFunc_api_Set_attrset_compare.L3 x1 x2 z0 z1 ((IntKind.wrap .i64 (z2-1))) ((lset (lset z3 z2 a14) (IntKind.wrap .i64 (z2-1)) a12)) φ
 else
 slices_partialInsertionSortCmpFunc_api_Set_attrset_compare.L6 x1 x2 z0 z1 z3 φ)
 else
 slices_partialInsertionSortCmpFunc_api_Set_attrset_compare.L6 x1 x2 z0 z1 z3 φ)):L3 x1 x2 z0 z1 z2 z3 φ:=
 mIn <|
 mAsk 3 h dT dF (fun h=>
 mIy 7 (eI .u32) h fun a12 h13 h=>
 mLd 0 (eI .u32) h13 <|
 mIy 3 (eI .u32) h fun a14 h15 h=>
 mLd 0 (eI .u32) h15 <|
 mCal 0 h (fun _ h=>h) fun r16 _ h=>
 mAsk 0 h dT dF (fun h=>
 mIyf 13 (eI .u32) h15 <|
 mLd 0 (eI .u32) h15 <|
 mIyf 2 (eI .u32) h13 <|
 mLd 0 (eI .u32) h13 <|
 mIyf 0 (eI .u32) h13 <|
 mStoL 0 (eI .u32) a14 h13 <|
 mIy 0 (eI .u32) h fun a17 h18 h=>
 mSto 0 (eI .u32) a12 h18 <|
 mFin 6 h) fun h=>
 mFin 4 h) fun h=>
 mFin 3 h
theorem L6_step (x1 x2:Int) (z0 z1:Int) (z2:List Int) (φ:Bool×List Int→Prop) (h :
 (if 2≤(IntKind.wrap .i64 (x2-z0)) then
 slices_partialInsertionSortCmpFunc_api_Set_attrset_compare.L4 x1 x2 z0 z1 ((IntKind.wrap .i64 (z0+1))) z2 φ
 else
 slices_partialInsertionSortCmpFunc_api_Set_attrset_compare.L7 x1 x2 z0 z1 z2 φ)):L6 x1 x2 z0 z1 z2 φ:=
 mIn <|
 mAsk 4 h dT dF (fun h=>
 mFin 7 h) fun h=>
 mFin 3 h
theorem L4_step (x1 x2:Int) (z0 z1 z2:Int) (z3:List Int) (φ:Bool×List Int→Prop) (h :
 (if z2<x2 then
 ∃ a19,lget z3 z2=some a19 ∧
 ∃ a21,lget z3 ((IntKind.wrap .i64 (z2-1)))=some a21 ∧
 ∃ r23:Int,attrset_compare.C a19 a21 r23 ∧
 (if r23<0 then
 ∃ a24,lget ((lset z3 z2 a21)) ((IntKind.wrap .i64 (z2-1)))=some a24 ∧
 slices_partialInsertionSortCmpFunc_api_Set_attrset_compare.L4 x1 x2 z0 z1 ((IntKind.wrap .i64 (z2+1))) ((lset (lset z3 z2 a21) (IntKind.wrap .i64 (z2-1)) a19)) φ
 else
 slices_partialInsertionSortCmpFunc_api_Set_attrset_compare.L7 x1 x2 z0 z1 z3 φ)
 else
 slices_partialInsertionSortCmpFunc_api_Set_attrset_compare.L7 x1 x2 z0 z1 z3 φ)):L4 x1 x2 z0 z1 z2 z3 φ:=
 mIn <|
 mAsk 4 h dT dF (fun h=>
 mIy 7 (eI .u32) h fun a19 h20 h=>
 mLd 0 (eI .u32) h20 <|
 mIy 3 (eI .u32) h fun a21 h22 h=>
 mLd 0 (eI .u32) h22 <|
 mCal 0 h (fun _ h=>h) fun r23 _ h=>
 mAsk 0 h dT dF (fun h=>
 mIyf 13 (eI .u32) h22 <|
 mLd 0 (eI .u32) h22 <|
 mIyf 2 (eI .u32) h20 <|
 mLd 0 (eI .u32) h20 <|
 mIyf 0 (eI .u32) h20 <|
 mStoL 0 (eI .u32) a21 h20 <|
 mIy 0 (eI .u32) h fun a24 h25 h=>
 mSto 0 (eI .u32) a19 h25 <|
 mFin 6 h) fun h=>
 mFin 4 h) fun h=>
 mFin 3 h
theorem L7_step (x1 x2:Int) (z0 z1:Int) (z2:List Int) (φ:Bool×List Int→Prop) (h :
 slices_partialInsertionSortCmpFunc_api_Set_attrset_compare.L1 x1 x2 z0 ((IntKind.wrap .i64 (z1+1))) z2 φ):L7 x1 x2 z0 z1 z2 φ:=
 mIn <|
 mFin 5 h
theorem enter (x1 x2:Int) (k0_0:List Int) (φ:Bool×List Int→Prop) (h :
 slices_partialInsertionSortCmpFunc_api_Set_attrset_compare.L1 x1 x2 ((IntKind.wrap .i64 (x1+1))) 0 k0_0 φ):∃ r,φ r∧C x1 x2 k0_0 r:=
 mEnt (fd:=Tryz.f154) (body:=B) (V:=W) (res:=res) <|
 mFin 11 h
end slices_partialInsertionSortCmpFunc_api_Set_attrset_compare
namespace slices_partitionCmpFunc_api_Set_attrset_compare
noncomputable def B:Code:=(Tryz.f156.body).getD .skip
def W:List Nat:=[0,1,2,3,4,10,11,12,13,47,66,71,120,139,144,1000000]
def res (r:Int×Bool×List Int):D×List D:=(.tup [.lit (.int .i64 r.1),.lit (.bool r.2.1)],[.own (r.2.2.map (eI .u32))])
def C (x1 x2 x3:Int) (k0_0:List Int) (r:Int×Bool×List Int):Prop:=Ret env 156 [.own (k0_0.map (eI .u32)),.lit (.int .i64 x1),.lit (.int .i64 x2),.lit (.int .i64 x3),.fn 123 []] (res r).1 (res r).2
def L1 (x1 z0 z1:Int) (z2:List Int) (φ:Int×Bool×List Int→Prop):Prop:=Pt env 156 W B [1,1,1,0,0] [(0,.alias 1000000 []),(1,.lit (.int .i64 x1)),(4,.fn 123 []),(12,.lit (.int .i64 z0)),(13,.lit (.int .i64 z1)),(1000000,.own (z2.map (eI .u32)))] (Lv env 156 Tryz.f156 5 res φ)
def L2 (x1 z0 z1:Int) (z2:List Int) (φ:Int×Bool×List Int→Prop):Prop:=Pt env 156 W B [1,1,1,1,0,0] [(0,.alias 1000000 []),(1,.lit (.int .i64 x1)),(4,.fn 123 []),(12,.lit (.int .i64 z0)),(13,.lit (.int .i64 z1)),(1000000,.own (z2.map (eI .u32)))] (Lv env 156 Tryz.f156 5 res φ)
def L4 (x1 z0 z1:Int) (z2:List Int) (φ:Int×Bool×List Int→Prop):Prop:=Pt env 156 W B [1,1,1,1,1,0,0] [(0,.alias 1000000 []),(1,.lit (.int .i64 x1)),(4,.fn 123 []),(12,.lit (.int .i64 z0)),(13,.lit (.int .i64 z1)),(1000000,.own (z2.map (eI .u32)))] (Lv env 156 Tryz.f156 5 res φ)
def L3 (x1 z0 z1:Int) (z2:List Int) (φ:Int×Bool×List Int→Prop):Prop:=Pt env 156 W B [1,1,1,1,1,1,1,1,1,0,0] [(0,.alias 1000000 []),(1,.lit (.int .i64 x1)),(4,.fn 123 []),(12,.lit (.int .i64 z0)),(13,.lit (.int .i64 z1)),(1000000,.own (z2.map (eI .u32)))] (Lv env 156 Tryz.f156 5 res φ)
def L5 (x1 z0 z1:Int) (z2:List Int) (φ:Int×Bool×List Int→Prop):Prop:=Pt env 156 W B [1,1,1,1,1,1,1,1,1,0,0,0,0,0,0] [(0,.alias 1000000 []),(1,.lit (.int .i64 x1)),(4,.fn 123 []),(12,.lit (.int .i64 z0)),(13,.lit (.int .i64 z1)),(1000000,.own (z2.map (eI .u32)))] (Lv env 156 Tryz.f156 5 res φ)
def L6 (x1 z0 z1:Int) (z2:List Int) (φ:Int×Bool×List Int→Prop):Prop:=Pt env 156 W B [1,1,1,1,1,1,1,1,1,0,0,0,0,1,0,0] [(0,.alias 1000000 []),(1,.lit (.int .i64 x1)),(4,.fn 123 []),(12,.lit (.int .i64 z0)),(13,.lit (.int .i64 z1)),(1000000,.own (z2.map (eI .u32)))] (Lv env 156 Tryz.f156 5 res φ)
def L7 (x1 z0 z1:Int) (z2:List Int) (φ:Int×Bool×List Int→Prop):Prop:=Pt env 156 W B [1,1,1,1,1,1,1,1,1,0,0,0,0,1,1,0,0] [(0,.alias 1000000 []),(1,.lit (.int .i64 x1)),(4,.fn 123 []),(12,.lit (.int .i64 z0)),(13,.lit (.int .i64 z1)),(1000000,.own (z2.map (eI .u32)))] (Lv env 156 Tryz.f156 5 res φ)
theorem L1_step (x1 z0 z1:Int) (z2:List Int) (φ:Int×Bool×List Int→Prop) (h :
 (if z0≤z1 then
 ∃ a7,lget z2 z0=some a7 ∧
 ∃ a9,lget z2 x1=some a9 ∧
 ∃ r11:Int,attrset_compare.C a7 a9 r11 ∧
 (if r11<0 then
 slices_partitionCmpFunc_api_Set_attrset_compare.L1 x1 ((IntKind.wrap .i64 (z0+1))) z1 z2 φ
 else
 slices_partitionCmpFunc_api_Set_attrset_compare.L2 x1 z0 z1 z2 φ)
 else
 slices_partitionCmpFunc_api_Set_attrset_compare.L2 x1 z0 z1 z2 φ)):L1 x1 z0 z1 z2 φ:=
 mIn <|
 mAsk 4 h dT dF (fun h=>
 mIy 4 (eI .u32) h fun a7 h8 h=>
 mLd 0 (eI .u32) h8 <|
 mIy 2 (eI .u32) h fun a9 h10 h=>
 mLd 0 (eI .u32) h10 <|
 mCal 0 h (fun _ h=>h) fun r11 _ h=>
 mAsk 0 h dT dF (fun h=>
 mFin 9 h) fun h=>
 mFin 4 h) fun h=>
 mFin 16 h
theorem L2_step (x1 z0 z1:Int) (z2:List Int) (φ:Int×Bool×List Int→Prop) (h :
 (if z0≤z1 then
 ∃ a12,lget z2 z1=some a12 ∧
 ∃ a14,lget z2 x1=some a14 ∧
 ∃ r16:Int,attrset_compare.C a12 a14 r16 ∧
 (if r16<0 then
 slices_partitionCmpFunc_api_Set_attrset_compare.L4 x1 z0 z1 z2 φ
 else
 slices_partitionCmpFunc_api_Set_attrset_compare.L2 x1 z0 ((IntKind.wrap .i64 (z1-1))) z2 φ)
 else
 slices_partitionCmpFunc_api_Set_attrset_compare.L4 x1 z0 z1 z2 φ)):L2 x1 z0 z1 z2 φ:=
 mIn <|
 mAsk 4 h dT dF (fun h=>
 mIy 4 (eI .u32) h fun a12 h13 h=>
 mLd 0 (eI .u32) h13 <|
 mIy 2 (eI .u32) h fun a14 h15 h=>
 mLd 0 (eI .u32) h15 <|
 mCal 0 h (fun _ h=>h) fun r16 _ h=>
 mAsk 0 h dT dF (fun h=>
 mFin 5 h) fun h=>
 mFin 10 h) fun h=>
 mFin 17 h
theorem L4_step (x1 z0 z1:Int) (z2:List Int) (φ:Int×Bool×List Int→Prop) (h :
 (if z1<z0 then
 ∃ a17,lget z2 x1=some a17 ∧
 ∃ a19,lget z2 z1=some a19 ∧
 ∃ a21,lget ((lset z2 z1 a17)) x1=some a21 ∧
 φ ((z1,true,(lset (lset z2 z1 a17) x1 a19)))
 else
 ∃ a23,lget z2 z1=some a23 ∧
 ∃ a25,lget z2 z0=some a25 ∧
 ∃ a27,lget ((lset z2 z0 a23)) z1=some a27 ∧
 slices_partitionCmpFunc_api_Set_attrset_compare.L3 x1 ((IntKind.wrap .i64 (z0+1))) ((IntKind.wrap .i64 (z1-1))) ((lset (lset z2 z0 a23) z1 a25)) φ)):L4 x1 z0 z1 z2 φ:=
 mIn <|
 mAsk 3 h dT dF (fun h=>
 mIy 9 (eI .u32) h fun a17 h18 h=>
 mLd 0 (eI .u32) h18 <|
 mIy 2 (eI .u32) h fun a19 h20 h=>
 mLd 0 (eI .u32) h20 <|
 mIyf 0 (eI .u32) h20 <|
 mStoL 0 (eI .u32) a17 h20 <|
 mIy 0 (eI .u32) h fun a21 h22 h=>
 mSto 0 (eI .u32) a19 h22 <|
 mRet 6 h) fun h=>
 mIy 10 (eI .u32) h fun a23 h24 h=>
 mLd 0 (eI .u32) h24 <|
 mIy 2 (eI .u32) h fun a25 h26 h=>
 mLd 0 (eI .u32) h26 <|
 mIyf 0 (eI .u32) h26 <|
 mStoL 0 (eI .u32) a23 h26 <|
 mIy 0 (eI .u32) h fun a27 h28 h=>
 mSto 0 (eI .u32) a25 h28 <|
 mFin 11 h
theorem L3_step (x1 z0 z1:Int) (z2:List Int) (φ:Int×Bool×List Int→Prop) (h :
 slices_partitionCmpFunc_api_Set_attrset_compare.L5 x1 z0 z1 z2 φ):L3 x1 z0 z1 z2 φ:=
 mIn <|
 mFin 1 h
theorem L5_step (x1 z0 z1:Int) (z2:List Int) (φ:Int×Bool×List Int→Prop) (h :
 (if z0≤z1 then
 ∃ a29,lget z2 z0=some a29 ∧
 ∃ a31,lget z2 x1=some a31 ∧
 ∃ r33:Int,attrset_compare.C a29 a31 r33 ∧
 (if r33<0 then
 slices_partitionCmpFunc_api_Set_attrset_compare.L5 x1 ((IntKind.wrap .i64 (z0+1))) z1 z2 φ
 else
 slices_partitionCmpFunc_api_Set_attrset_compare.L6 x1 z0 z1 z2 φ)
 else
 slices_partitionCmpFunc_api_Set_attrset_compare.L6 x1 z0 z1 z2 φ)):L5 x1 z0 z1 z2 φ:=
 mIn <|
 mAsk 4 h dT dF (fun h=>
 mIy 4 (eI .u32) h fun a29 h30 h=>
 mLd 0 (eI .u32) h30 <|
 mIy 2 (eI .u32) h fun a31 h32 h=>
 mLd 0 (eI .u32) h32 <|
 mCal 0 h (fun _ h=>h) fun r33 _ h=>
 mAsk 0 h dT dF (fun h=>
 mFin 9 h) fun h=>
 mFin 4 h) fun h=>
 mFin 16 h
theorem L6_step (x1 z0 z1:Int) (z2:List Int) (φ:Int×Bool×List Int→Prop) (h :
 (if z0≤z1 then
 ∃ a34,lget z2 z1=some a34 ∧
 ∃ a36,lget z2 x1=some a36 ∧
 ∃ r38:Int,attrset_compare.C a34 a36 r38 ∧
 (if r38<0 then
 slices_partitionCmpFunc_api_Set_attrset_compare.L7 x1 z0 z1 z2 φ
 else
 slices_partitionCmpFunc_api_Set_attrset_compare.L6 x1 z0 ((IntKind.wrap .i64 (z1-1))) z2 φ)
 else
 slices_partitionCmpFunc_api_Set_attrset_compare.L7 x1 z0 z1 z2 φ)):L6 x1 z0 z1 z2 φ:=
 mIn <|
 mAsk 4 h dT dF (fun h=>
 mIy 4 (eI .u32) h fun a34 h35 h=>
 mLd 0 (eI .u32) h35 <|
 mIy 2 (eI .u32) h fun a36 h37 h=>
 mLd 0 (eI .u32) h37 <|
 mCal 0 h (fun _ h=>h) fun r38 _ h=>
 mAsk 0 h dT dF (fun h=>
 mFin 5 h) fun h=>
 mFin 10 h) fun h=>
 mFin 17 h
theorem L7_step (x1 z0 z1:Int) (z2:List Int) (φ:Int×Bool×List Int→Prop) (h :
 (if z1<z0 then
 ∃ a39,lget z2 x1=some a39 ∧
 ∃ a41,lget z2 z1=some a41 ∧
 ∃ a43,lget ((lset z2 z1 a39)) x1=some a43 ∧
 φ ((z1,false,(lset (lset z2 z1 a39) x1 a41)))
 else
 ∃ a45,lget z2 z1=some a45 ∧
 ∃ a47,lget z2 z0=some a47 ∧
 ∃ a49,lget ((lset z2 z0 a45)) z1=some a49 ∧
 slices_partitionCmpFunc_api_Set_attrset_compare.L3 x1 ((IntKind.wrap .i64 (z0+1))) ((IntKind.wrap .i64 (z1-1))) ((lset (lset z2 z0 a45) z1 a47)) φ)):L7 x1 z0 z1 z2 φ:=
 mIn <|
 mAsk 3 h dT dF (fun h=>
 mIy 10 (eI .u32) h fun a39 h40 h=>
 mLd 0 (eI .u32) h40 <|
 mIy 2 (eI .u32) h fun a41 h42 h=>
 mLd 0 (eI .u32) h42 <|
 mIyf 0 (eI .u32) h42 <|
 mStoL 0 (eI .u32) a39 h42 <|
 mIy 0 (eI .u32) h fun a43 h44 h=>
 mSto 0 (eI .u32) a41 h44 <|
 mRet 6 h) fun h=>
 mIy 10 (eI .u32) h fun a45 h46 h=>
 mLd 0 (eI .u32) h46 <|
 mIy 2 (eI .u32) h fun a47 h48 h=>
 mLd 0 (eI .u32) h48 <|
 mIyf 0 (eI .u32) h48 <|
 mStoL 0 (eI .u32) a45 h48 <|
 mIy 0 (eI .u32) h fun a49 h50 h=>
 mSto 0 (eI .u32) a47 h50 <|
 mFin 11 h
theorem enter (x1 x2 x3:Int) (k0_0:List Int) (φ:Int×Bool×List Int→Prop) (h :
 ∃ a1,lget k0_0 x3=some a1 ∧
 ∃ a3,lget k0_0 x1=some a3 ∧
 ∃ a5,lget ((lset k0_0 x1 a1)) x3=some a5 ∧
 slices_partitionCmpFunc_api_Set_attrset_compare.L1 x1 ((IntKind.wrap .i64 (x1+1))) ((IntKind.wrap .i64 (x2-1))) ((lset (lset k0_0 x1 a1) x3 a3)) φ):∃ r,φ r∧C x1 x2 x3 k0_0 r:=
 mEnt (fd:=Tryz.f156) (body:=B) (V:=W) (res:=res) <|
 mIy 11 (eI .u32) h fun a1 h2 h=>
 mLd 0 (eI .u32) h2 <|
 mIy 2 (eI .u32) h fun a3 h4 h=>
 mLd 0 (eI .u32) h4 <|
 mIyf 0 (eI .u32) h4 <|
 mStoL 0 (eI .u32) a1 h4 <|
 mIy 0 (eI .u32) h fun a5 h6 h=>
 mSto 0 (eI .u32) a3 h6 <|
 mFin 9 h
end slices_partitionCmpFunc_api_Set_attrset_compare
namespace slices_partitionEqualCmpFunc_api_Set_attrset_compare
noncomputable def B:Code:=(Tryz.f155.body).getD .skip
def W:List Nat:=[0,1,2,3,4,10,11,12,47,65,70,1000000]
def res (r:Int×List Int):D×List D:=(.lit (.int .i64 r.1),[.own (r.2.map (eI .u32))])
def C (x1 x2 x3:Int) (k0_0:List Int) (r:Int×List Int):Prop:=Ret env 155 [.own (k0_0.map (eI .u32)),.lit (.int .i64 x1),.lit (.int .i64 x2),.lit (.int .i64 x3),.fn 123 []] (res r).1 (res r).2
def L1 (x1 z0 z1:Int) (z2:List Int) (φ:Int×List Int→Prop):Prop:=Pt env 155 W B [1,1,1,0,0] [(0,.alias 1000000 []),(1,.lit (.int .i64 x1)),(4,.fn 123 []),(11,.lit (.int .i64 z0)),(12,.lit (.int .i64 z1)),(1000000,.own (z2.map (eI .u32)))] (Lv env 155 Tryz.f155 5 res φ)
def L2 (x1 z0 z1:Int) (z2:List Int) (φ:Int×List Int→Prop):Prop:=Pt env 155 W B [1,1,1,0,0,0,0,0,0] [(0,.alias 1000000 []),(1,.lit (.int .i64 x1)),(4,.fn 123 []),(11,.lit (.int .i64 z0)),(12,.lit (.int .i64 z1)),(1000000,.own (z2.map (eI .u32)))] (Lv env 155 Tryz.f155 5 res φ)
def L3 (x1 z0 z1:Int) (z2:List Int) (φ:Int×List Int→Prop):Prop:=Pt env 155 W B [1,1,1,0,0,0,0,1,0,0] [(0,.alias 1000000 []),(1,.lit (.int .i64 x1)),(4,.fn 123 []),(11,.lit (.int .i64 z0)),(12,.lit (.int .i64 z1)),(1000000,.own (z2.map (eI .u32)))] (Lv env 155 Tryz.f155 5 res φ)
def L4 (x1 z0 z1:Int) (z2:List Int) (φ:Int×List Int→Prop):Prop:=Pt env 155 W B [1,1,1,0,0,0,0,1,1,0,0] [(0,.alias 1000000 []),(1,.lit (.int .i64 x1)),(4,.fn 123 []),(11,.lit (.int .i64 z0)),(12,.lit (.int .i64 z1)),(1000000,.own (z2.map (eI .u32)))] (Lv env 155 Tryz.f155 5 res φ)
theorem L1_step (x1 z0 z1:Int) (z2:List Int) (φ:Int×List Int→Prop) (h :
 slices_partitionEqualCmpFunc_api_Set_attrset_compare.L2 x1 z0 z1 z2 φ):L1 x1 z0 z1 z2 φ:=
 mIn <|
 mFin 1 h
theorem L2_step (x1 z0 z1:Int) (z2:List Int) (φ:Int×List Int→Prop) (h :
 (if z0≤z1 then
 ∃ a7,lget z2 x1=some a7 ∧
 ∃ a9,lget z2 z0=some a9 ∧
 ∃ r11:Int,attrset_compare.C a7 a9 r11 ∧
 (if r11<0 then
 slices_partitionEqualCmpFunc_api_Set_attrset_compare.L3 x1 z0 z1 z2 φ
 else
 slices_partitionEqualCmpFunc_api_Set_attrset_compare.L2 x1 ((IntKind.wrap .i64 (z0+1))) z1 z2 φ)
 else
 slices_partitionEqualCmpFunc_api_Set_attrset_compare.L3 x1 z0 z1 z2 φ)):L2 x1 z0 z1 z2 φ:=
 mIn <|
 mAsk 4 h dT dF (fun h=>
 mIy 4 (eI .u32) h fun a7 h8 h=>
 mLd 0 (eI .u32) h8 <|
 mIy 2 (eI .u32) h fun a9 h10 h=>
 mLd 0 (eI .u32) h10 <|
 mCal 0 h (fun _ h=>h) fun r11 _ h=>
 mAsk 0 h dT dF (fun h=>
 mFin 5 h) fun h=>
 mFin 10 h) fun h=>
 mFin 17 h
theorem L3_step (x1 z0 z1:Int) (z2:List Int) (φ:Int×List Int→Prop) (h :
 (if z0≤z1 then
 ∃ a12,lget z2 x1=some a12 ∧
 ∃ a14,lget z2 z1=some a14 ∧
 ∃ r16:Int,attrset_compare.C a12 a14 r16 ∧
 (if r16<0 then
 slices_partitionEqualCmpFunc_api_Set_attrset_compare.L3 x1 z0 ((IntKind.wrap .i64 (z1-1))) z2 φ
 else
 slices_partitionEqualCmpFunc_api_Set_attrset_compare.L4 x1 z0 z1 z2 φ)
 else
 slices_partitionEqualCmpFunc_api_Set_attrset_compare.L4 x1 z0 z1 z2 φ)):L3 x1 z0 z1 z2 φ:=
 mIn <|
 mAsk 4 h dT dF (fun h=>
 mIy 4 (eI .u32) h fun a12 h13 h=>
 mLd 0 (eI .u32) h13 <|
 mIy 2 (eI .u32) h fun a14 h15 h=>
 mLd 0 (eI .u32) h15 <|
 mCal 0 h (fun _ h=>h) fun r16 _ h=>
 mAsk 0 h dT dF (fun h=>
 mFin 9 h) fun h=>
 mFin 4 h) fun h=>
 mFin 16 h
theorem L4_step (x1 z0 z1:Int) (z2:List Int) (φ:Int×List Int→Prop) (h :
 (if z1<z0 then
 φ ((z0,z2))
 else
 ∃ a17,lget z2 z1=some a17 ∧
 ∃ a19,lget z2 z0=some a19 ∧
 ∃ a21,lget ((lset z2 z0 a17)) z1=some a21 ∧
 slices_partitionEqualCmpFunc_api_Set_attrset_compare.L1 x1 ((IntKind.wrap .i64 (z0+1))) ((IntKind.wrap .i64 (z1-1))) ((lset (lset z2 z0 a17) z1 a19)) φ)):L4 x1 z0 z1 z2 φ:=
 mIn <|
 mAsk 3 h dT dF (fun h=>
 mRet 7 h) fun h=>
 mIy 10 (eI .u32) h fun a17 h18 h=>
 mLd 0 (eI .u32) h18 <|
 mIy 2 (eI .u32) h fun a19 h20 h=>
 mLd 0 (eI .u32) h20 <|
 mIyf 0 (eI .u32) h20 <|
 mStoL 0 (eI .u32) a17 h20 <|
 mIy 0 (eI .u32) h fun a21 h22 h=>
 mSto 0 (eI .u32) a19 h22 <|
 mFin 11 h
theorem enter (x1 x2 x3:Int) (k0_0:List Int) (φ:Int×List Int→Prop) (h :
 ∃ a1,lget k0_0 x3=some a1 ∧
 ∃ a3,lget k0_0 x1=some a3 ∧
 ∃ a5,lget ((lset k0_0 x1 a1)) x3=some a5 ∧
 slices_partitionEqualCmpFunc_api_Set_attrset_compare.L1 x1 ((IntKind.wrap .i64 (x1+1))) ((IntKind.wrap .i64 (x2-1))) ((lset (lset k0_0 x1 a1) x3 a3)) φ):∃ r,φ r∧C x1 x2 x3 k0_0 r:=
 mEnt (fd:=Tryz.f155) (body:=B) (V:=W) (res:=res) <|
 mIy 10 (eI .u32) h fun a1 h2 h=>
 mLd 0 (eI .u32) h2 <|
 mIy 2 (eI .u32) h fun a3 h4 h=>
 mLd 0 (eI .u32) h4 <|
 mIyf 0 (eI .u32) h4 <|
 mStoL 0 (eI .u32) a1 h4 <|
 mIy 0 (eI .u32) h fun a5 h6 h=>
 mSto 0 (eI .u32) a3 h6 <|
 mFin 9 h
end slices_partitionEqualCmpFunc_api_Set_attrset_compare
namespace slices_reverseRangeCmpFunc_api_Set_attrset_compare
noncomputable def B:Code:=(Tryz.f153.body).getD .skip
def W:List Nat:=[0,1,2,3,8,9,15,1000000]
def res (r:List Int):D×List D:=(.tup [],[.own (r.map (eI .u32))])
def C (x1 x2:Int) (k0_0 r:List Int):Prop:=Ret env 153 [.own (k0_0.map (eI .u32)),.lit (.int .i64 x1),.lit (.int .i64 x2),.fn 123 []] (res r).1 (res r).2
def L1 (x1 z0:Int) (k0_0:List Int) (φ:List Int→Prop):Prop:=Pt env 153 W B [1,1,0] [(0,.alias 1000000 []),(8,.lit (.int .i64 x1)),(9,.lit (.int .i64 z0)),(1000000,.own (k0_0.map (eI .u32)))] (Lv env 153 Tryz.f153 4 res φ)
theorem L1_step (x1 z0:Int) (k0_0:List Int) (φ:List Int→Prop) (h :
 (if x1<z0 then
 ∃ a1,lget k0_0 z0=some a1 ∧
 ∃ a3,lget k0_0 x1=some a3 ∧
 ∃ a5,lget ((lset k0_0 x1 a1)) z0=some a5 ∧
 slices_reverseRangeCmpFunc_api_Set_attrset_compare.L1 ((IntKind.wrap .i64 (x1+1))) ((IntKind.wrap .i64 (z0-1))) ((lset (lset k0_0 x1 a1) z0 a3)) φ
 else
 φ k0_0)):L1 x1 z0 k0_0 φ:=
 mIn <|
 mAsk 4 h dT dF (fun h=>
 mIy 10 (eI .u32) h fun a1 h2 h=>
 mLd 0 (eI .u32) h2 <|
 mIy 2 (eI .u32) h fun a3 h4 h=>
 mLd 0 (eI .u32) h4 <|
 mIyf 0 (eI .u32) h4 <|
 mStoL 0 (eI .u32) a1 h4 <|
 mIy 0 (eI .u32) h fun a5 h6 h=>
 mSto 0 (eI .u32) a3 h6 <|
 mFin 11 h) fun h=>
 mRet 2 h
theorem enter (x1 x2:Int) (k0_0:List Int) (φ:List Int→Prop) (h :
 slices_reverseRangeCmpFunc_api_Set_attrset_compare.L1 x1 ((IntKind.wrap .i64 (x2-1))) k0_0 φ):∃ r,φ r∧C x1 x2 k0_0 r:=
 mEnt (fd:=Tryz.f153) (body:=B) (V:=W) (res:=res) <|
 mFin 9 h
end slices_reverseRangeCmpFunc_api_Set_attrset_compare
namespace slices_order2CmpFunc_api_Set_attrset_compare
noncomputable def B:Code:=(Tryz.f166.body).getD .skip
def W:List Nat:=[0,1,2,3,4,10,11,22,1000003]
def res (r:Int×Int×Int):D×List D:=(.tup [.lit (.int .i64 r.1),.lit (.int .i64 r.2.1)],[.box [.lit (.int .i64 r.2.2)]])
def C (x0:List Int) (x1 x2 k3_0:Int) (r:Int×Int×Int):Prop:=Ret env 166 [.sl (x0.map (eI .u32)),.lit (.int .i64 x1),.lit (.int .i64 x2),.box [.lit (.int .i64 k3_0)],.fn 123 []] (res r).1 (res r).2
theorem enter (x0:List Int) (x1 x2 k3_0:Int) (φ:Int×Int×Int→Prop) (h :
 ∃ a1,lget x0 x2=some a1 ∧
 ∃ a3,lget x0 x1=some a3 ∧
 ∃ r5:Int,attrset_compare.C a1 a3 r5 ∧
 (if r5<0 then
 φ ((x2,x1,(IntKind.wrap .i64 (k3_0+1))))
 else
 φ ((x1,x2,k3_0)))):∃ r,φ r∧C x0 x1 x2 k3_0 r:=
 mEnt (fd:=Tryz.f166) (body:=B) (V:=W) (res:=res) <|
 mIx 8 (eI .u32) h fun a1 h2 h=>
 mIx 3 (eI .u32) h fun a3 h4 h=>
 mCal 1 h (fun _ h=>h) fun r5 _ h=>
 mAsk 0 h dT dF (fun h=>
 mRet 16 h) fun h=>
 mRet 9 h
end slices_order2CmpFunc_api_Set_attrset_compare
namespace slices_medianCmpFunc_api_Set_attrset_compare
noncomputable def B:Code:=(Tryz.f165.body).getD .skip
def W:List Nat:=[0,1,2,3,4,5,12,1000004]
def res (r:Int×Int):D×List D:=(.lit (.int .i64 r.1),[.box [.lit (.int .i64 r.2)]])
def C (x0:List Int) (x1 x2:Int) (x3 k4_0:Int) (r:Int×Int):Prop:=Ret env 165 [.sl (x0.map (eI .u32)),.lit (.int .i64 x1),.lit (.int .i64 x2),.lit (.int .i64 x3),.box [.lit (.int .i64 k4_0)],.fn 123 []] (res r).1 (res r).2
theorem enter (x0:List Int) (x1 x2:Int) (x3 k4_0:Int) (φ:Int×Int→Prop) (h :
 ∃ r1:Int×Int×Int,slices_order2CmpFunc_api_Set_attrset_compare.C x0 x1 x2 k4_0 r1 ∧
 ∃ r2:Int×Int×Int,slices_order2CmpFunc_api_Set_attrset_compare.C x0 r1.2.1 x3 r1.2.2 r2 ∧
 ∃ r3:Int×Int×Int,slices_order2CmpFunc_api_Set_attrset_compare.C x0 r1.1 r2.1 r2.2.2 r3 ∧
 φ ((r3.2.1,r3.2.2))):∃ r,φ r∧C x0 x1 x2 x3 k4_0 r:=
 mEnt (fd:=Tryz.f165) (body:=B) (V:=W) (res:=res) <|
 mCal 9 h (fun _ h=>h) fun r1 _ h=>
 mCal 12 h (fun _ h=>h) fun r2 _ h=>
 mCal 12 h (fun _ h=>h) fun r3 _ h=>
 mRet 10 h
end slices_medianCmpFunc_api_Set_attrset_compare
namespace slices_medianAdjacentCmpFunc_api_Set_attrset_compare
noncomputable def B:Code:=(Tryz.f164.body).getD .skip
def W:List Nat:=[0,1,2,3,8,1000002]
def res (r:Int×Int):D×List D:=(.lit (.int .i64 r.1),[.box [.lit (.int .i64 r.2)]])
def C (x0:List Int) (x1 k2_0:Int) (r:Int×Int):Prop:=Ret env 164 [.sl (x0.map (eI .u32)),.lit (.int .i64 x1),.box [.lit (.int .i64 k2_0)],.fn 123 []] (res r).1 (res r).2
theorem enter (x0:List Int) (x1 k2_0:Int) (φ:Int×Int→Prop) (h :
 ∃ r1:Int×Int,slices_medianCmpFunc_api_Set_attrset_compare.C x0 ((IntKind.wrap .i64 (x1-1))) x1 ((IntKind.wrap .i64 (x1+1))) k2_0 r1 ∧
 φ ((r1.1,r1.2))):∃ r,φ r∧C x0 x1 k2_0 r:=
 mEnt (fd:=Tryz.f164) (body:=B) (V:=W) (res:=res) <|
 mCal 12 h (fun _ h=>h) fun r1 _ h=>
 mRet 2 h
end slices_medianAdjacentCmpFunc_api_Set_attrset_compare
namespace slices_choosePivotCmpFunc_api_Set_attrset_compare
noncomputable def B:Code:=(Tryz.f152.body).getD .skip
def W:List Nat:=[0,1,2,3,8,9,10,11,12,13,14,34,36,55,57,60]
def res (r:Int×Int):D×List D:=(.tup [.lit (.int .i64 r.1),.lit (.int .i64 r.2)],[])
def C (x0:List Int) (x1 x2:Int) (r:Int×Int):Prop:=Ret env 152 [.sl (x0.map (eI .u32)),.lit (.int .i64 x1),.lit (.int .i64 x2),.fn 123 []] (res r).1 (res r).2
def L1 (x0:List Int) (z0 z1:Int) (z2 z3:Int) (φ:Int×Int→Prop):Prop:=Pt env 152 W B [1,1,1,1,1,1,0,1,0,1] [(0,.sl (x0.map (eI .u32))),(3,.fn 123 []),(11,.box [.lit (.int .i64 z0)]),(12,.lit (.int .i64 z1)),(13,.lit (.int .i64 z2)),(14,.lit (.int .i64 z3))] (Lv env 152 Tryz.f152 4 res φ)
def L2 (z0 z1:Int) (φ:Int×Int→Prop):Prop:=Pt env 152 W B [1,1,1,1,1,1,1,0] [(11,.box [.lit (.int .i64 z0)]),(13,.lit (.int .i64 z1))] (Lv env 152 Tryz.f152 4 res φ)
theorem L1_step (x0:List Int) (z0 z1:Int) (z2 z3:Int) (φ:Int×Int→Prop) (h :
 ∃ r4:Int×Int,slices_medianCmpFunc_api_Set_attrset_compare.C x0 z1 z2 z3 z0 r4 ∧
 slices_choosePivotCmpFunc_api_Set_attrset_compare.L2 r4.2 r4.1 φ):L1 x0 z0 z1 z2 z3 φ:=
 mIn <|
 mCal 6 h (fun _ h=>h) fun r4 _ h=>
 mFin 2 h
theorem L2_step (z0 z1:Int) (φ:Int×Int→Prop) (h :
 (if z0=0 then
 φ ((z1,1))
 else
 (if z0=12 then
 φ ((z1,2))
 else
 φ ((z1,0))))):L2 z0 z1 φ:=
 mIn <|
 mCon 7 h beq_t beq_f (fun h=>
 mRet 5 h) fun h=>
 mCon 4 h beq_t beq_f (fun h=>
 mRet 5 h) fun h=>
 mRet 5 h
theorem enter (x0:List Int) (x1 x2:Int) (φ:Int×Int→Prop) (h :
 (if 8≤(IntKind.wrap .i64 (x2-x1)) then
 (if 50≤(IntKind.wrap .i64 (x2-x1)) then
 ∃ r1:Int×Int,slices_medianAdjacentCmpFunc_api_Set_attrset_compare.C x0 ((IntKind.wrap .i64 (x1+(IntKind.wrap .i64 ((IntKind.wrap .i64 (Int.tdiv (IntKind.wrap .i64 (x2-x1)) 4))*1))))) 0 r1 ∧
 ∃ r2:Int×Int,slices_medianAdjacentCmpFunc_api_Set_attrset_compare.C x0 ((IntKind.wrap .i64 (x1+(IntKind.wrap .i64 ((IntKind.wrap .i64 (Int.tdiv (IntKind.wrap .i64 (x2-x1)) 4))*2))))) r1.2 r2 ∧
 ∃ r3:Int×Int,slices_medianAdjacentCmpFunc_api_Set_attrset_compare.C x0 ((IntKind.wrap .i64 (x1+(IntKind.wrap .i64 ((IntKind.wrap .i64 (Int.tdiv (IntKind.wrap .i64 (x2-x1)) 4))*3))))) r2.2 r3 ∧
 slices_choosePivotCmpFunc_api_Set_attrset_compare.L1 x0 r3.2 r1.1 r2.1 r3.1 φ
 else
 slices_choosePivotCmpFunc_api_Set_attrset_compare.L1 x0 0 ((IntKind.wrap .i64 (x1+(IntKind.wrap .i64 ((IntKind.wrap .i64 (Int.tdiv (IntKind.wrap .i64 (x2-x1)) 4))*1))))) ((IntKind.wrap .i64 (x1+(IntKind.wrap .i64 ((IntKind.wrap .i64 (Int.tdiv (IntKind.wrap .i64 (x2-x1)) 4))*2))))) ((IntKind.wrap .i64 (x1+(IntKind.wrap .i64 ((IntKind.wrap .i64 (Int.tdiv (IntKind.wrap .i64 (x2-x1)) 4))*3))))) φ)
 else
 slices_choosePivotCmpFunc_api_Set_attrset_compare.L2 0 ((IntKind.wrap .i64 (x1+(IntKind.wrap .i64 ((IntKind.wrap .i64 (Int.tdiv (IntKind.wrap .i64 (x2-x1)) 4))*2))))) φ)):∃ r,φ r∧C x0 x1 x2 r:=
 mEnt (fd:=Tryz.f152) (body:=B) (V:=W) (res:=res) <|
 mAsk 39 h dT dF (fun h=>
 mAsk 4 h dT dF (fun h=>
 mCal 6 h (fun _ h=>h) fun r1 _ h=>
 mCal 6 h (fun _ h=>h) fun r2 _ h=>
 mCal 6 h (fun _ h=>h) fun r3 _ h=>
 mFin 2 h) fun h=>
 mFin 3 h) fun h=>
 mFin 3 h
end slices_choosePivotCmpFunc_api_Set_attrset_compare
namespace math_bits_Len64
noncomputable def B:Code:=(Tryz.f158.body).getD .skip
def W:List Nat:=[0,2,4,8,14]
def res (r:Int):D×List D:=(.lit (.int .i64 r),[])
def C (x0 r:Int):Prop:=Ret env 158 [.lit (.int .u64 x0)] (res r).1 (res r).2
def L3 (z0 z1:Int) (φ:Int→Prop):Prop:=Pt env 158 W B [1,1,0,0] [(0,.lit (.int .u64 z0)),(2,.lit (.int .i64 z1))] (Lv env 158 Tryz.f158 1 res φ)
def L2 (z0 z1:Int) (φ:Int→Prop):Prop:=Pt env 158 W B [1,1,1,0,0] [(0,.lit (.int .u64 z0)),(2,.lit (.int .i64 z1))] (Lv env 158 Tryz.f158 1 res φ)
def L1 (z0 z1:Int) (φ:Int→Prop):Prop:=Pt env 158 W B [1,1,1,1,0] [(0,.lit (.int .u64 z0)),(2,.lit (.int .i64 z1))] (Lv env 158 Tryz.f158 1 res φ)
theorem L3_step (z0 z1:Int) (φ:Int→Prop) (h :
 (if 65536≤z0 then
 math_bits_Len64.L2 ((shrw .u64 z0 16)) ((IntKind.wrap .i64 (z1+16))) φ
 else
 math_bits_Len64.L2 z0 z1 φ)):L3 z0 z1 φ:=
 mIn <|
 mAsk 2 h dT dF (fun h=>
 mFin 12 h) fun h=>
 mFin 3 h
theorem L2_step (z0 z1:Int) (φ:Int→Prop) (h :
 (if 256≤z0 then
 math_bits_Len64.L1 ((shrw .u64 z0 8)) ((IntKind.wrap .i64 (z1+8))) φ
 else
 math_bits_Len64.L1 z0 z1 φ)):L2 z0 z1 φ:=
 mIn <|
 mAsk 2 h dT dF (fun h=>
 mFin 12 h) fun h=>
 mFin 3 h
theorem L1_step (z0 z1:Int) (φ:Int→Prop) (h :
 ∃ b1,((0:Int)≤(IntKind.wrap .u8 z0)∧((⟨#[0,1,2,2,3,3,3,3,4,4,4,4,4,4,4,4,5,5,5,5,5,5,5,5,5,5,5,5,5,5,5,5,6,6,6,6,6,6,6,6,6,6,6,6,6,6,6,6,6,6,6,6,6,6,6,6,6,6,6,6,6,6,6,6,7,7,7,7,7,7,7,7,7,7,7,7,7,7,7,7,7,7,7,7,7,7,7,7,7,7,7,7,7,7,7,7,7,7,7,7,7,7,7,7,7,7,7,7,7,7,7,7,7,7,7,7,7,7,7,7,7,7,7,7,7,7,7,7,8,8,8,8,8,8,8,8,8,8,8,8,8,8,8,8,8,8,8,8,8,8,8,8,8,8,8,8,8,8,8,8,8,8,8,8,8,8,8,8,8,8,8,8,8,8,8,8,8,8,8,8,8,8,8,8,8,8,8,8,8,8,8,8,8,8,8,8,8,8,8,8,8,8,8,8,8,8,8,8,8,8,8,8,8,8,8,8,8,8,8,8,8,8,8,8,8,8,8,8,8,8,8,8,8,8,8,8,8,8,8,8,8,8,8,8,8,8,8,8,8,8,8,8,8,8,8,8]⟩:ByteArray))[((IntKind.wrap .u8 z0)).toNat]? = some b1) ∧
 φ ((IntKind.wrap .i64 (z1+(IntKind.wrap .i64 (u8i b1)))))):L1 z0 z1 φ:=
 mIn <|
 mSt 4 h fun b1 h=>
 mRet 4 h
theorem enter (x0:Int) (φ:Int→Prop) (h :
 (if 4294967296≤x0 then
 math_bits_Len64.L3 ((shrw .u64 x0 32)) 32 φ
 else
 math_bits_Len64.L3 x0 0 φ)):∃ r,φ r∧C x0 r:=
 mEnt (fd:=Tryz.f158) (body:=B) (V:=W) (res:=res) <|
 mAsk 5 h dT dF (fun h=>
 mFin 10 h) fun h=>
 mFin 3 h
end math_bits_Len64
namespace math_bits_Len
noncomputable def B:Code:=(Tryz.f142.body).getD .skip
def W:List Nat:=[0,2]
def res (r:Int):D×List D:=(.lit (.int .i64 r),[])
def C (x0 r:Int):Prop:=Ret env 142 [.lit (.int .u64 x0)] (res r).1 (res r).2
theorem enter (x0:Int) (φ:Int→Prop) (h :
 ∃ r1:Int,math_bits_Len64.C x0 r1 ∧
 φ r1):∃ r,φ r∧C x0 r:=
 mEnt (fd:=Tryz.f142) (body:=B) (V:=W) (res:=res) <|
 mCal 7 h (fun _ h=>h) fun r1 _ h=>
 mRet 2 h
end math_bits_Len
namespace slices_nextPowerOfTwo
noncomputable def B:Code:=(Tryz.f162.body).getD .skip
def W:List Nat:=[0,2]
def res (r:Int):D×List D:=(.lit (.int .u64 r),[])
def C (x0 r:Int):Prop:=Ret env 162 [.lit (.int .i64 x0)] (res r).1 (res r).2
theorem enter (x0:Int) (φ:Int→Prop) (h :
 ∃ r1:Int,math_bits_Len.C ((IntKind.wrap .u64 x0)) r1 ∧
 0≤r1 ∧
 φ ((shlw .u64 1 r1))):∃ r,φ r∧C x0 r:=
 mEnt (fd:=Tryz.f162) (body:=B) (V:=W) (res:=res) <|
 mCal 6 h (fun _ h=>h) fun r1 _ h=>
 h.elim fun h2 h=>
 mBi 0 (bin_shl (t:=172) (q:=.u64) (q':=.i64) (i1:=1) h2) <|
 mRet 2 h
end slices_nextPowerOfTwo
namespace slices_xorshift_Next
noncomputable def B:Code:=(Tryz.f163.body).getD .skip
def W:List Nat:=[0,2,1000000]
def res (r:Int×Int):D×List D:=(.lit (.int .u64 r.1),[.box [.lit (.int .u64 r.2)]])
def C (k0_0:Int) (r:Int×Int):Prop:=Ret env 163 [.box [.lit (.int .u64 k0_0)]] (res r).1 (res r).2
theorem enter (k0_0:Int) (φ:Int×Int→Prop) (h :
 φ (((bXor .u64 (bXor .u64 (bXor .u64 k0_0 (shlw .u64 k0_0 13)) (shrw .u64 (bXor .u64 k0_0 (shlw .u64 k0_0 13)) 7)) (shlw .u64 (bXor .u64 (bXor .u64 k0_0 (shlw .u64 k0_0 13)) (shrw .u64 (bXor .u64 k0_0 (shlw .u64 k0_0 13)) 7)) 17)),(bXor .u64 (bXor .u64 (bXor .u64 k0_0 (shlw .u64 k0_0 13)) (shrw .u64 (bXor .u64 k0_0 (shlw .u64 k0_0 13)) 7)) (shlw .u64 (bXor .u64 (bXor .u64 k0_0 (shlw .u64 k0_0 13)) (shrw .u64 (bXor .u64 k0_0 (shlw .u64 k0_0 13)) 7)) 17))))):∃ r,φ r∧C k0_0 r:=
 mEnt (fd:=Tryz.f163) (body:=B) (V:=W) (res:=res) <|
 mRet 45 h
end slices_xorshift_Next
namespace slices_breakPatternsCmpFunc_api_Set_attrset_compare
noncomputable def B:Code:=(Tryz.f151.body).getD .skip
def W:List Nat:=[0,1,2,3,8,9,10,11,12,17,35,45,1000000]
def res (r:List Int):D×List D:=(.tup [],[.own (r.map (eI .u32))])
def C (x1 x2:Int) (k0_0 r:List Int):Prop:=Ret env 151 [.own (k0_0.map (eI .u32)),.lit (.int .i64 x1),.lit (.int .i64 x2),.fn 123 []] (res r).1 (res r).2
def L1 (x1 z0:Int) (z1 r1 z2:Int) (k0_0:List Int) (φ:List Int→Prop):Prop:=Pt env 151 W B [1,1,0,1,1,1,0] [(0,.alias 1000000 []),(1,.lit (.int .i64 x1)),(8,.lit (.int .i64 z0)),(9,.box [.lit (.int .u64 z1)]),(10,.lit (.int .u64 r1)),(11,.lit (.int .i64 z2)),(1000000,.own (k0_0.map (eI .u32)))] (Lv env 151 Tryz.f151 4 res φ)
def L2 (x1 z0:Int) (r2:Int×Int) (r1 z1 z2:Int) (k0_0:List Int) (φ:List Int→Prop):Prop:=Pt env 151 W B [1,1,0,1,1,1,0,0,1,0,0,1,1] [(0,.alias 1000000 []),(1,.lit (.int .i64 x1)),(8,.lit (.int .i64 z0)),(9,.box [.lit (.int .u64 r2.2)]),(10,.lit (.int .u64 r1)),(11,.lit (.int .i64 z1)),(12,.lit (.int .i64 z2)),(1000000,.own (k0_0.map (eI .u32)))] (Lv env 151 Tryz.f151 4 res φ)
theorem L1_step (x1 z0:Int) (z1 r1 z2:Int) (k0_0:List Int) (φ:List Int→Prop) (h :
 (if z2≤(IntKind.wrap .i64 ((IntKind.wrap .i64 (x1+(IntKind.wrap .i64 ((IntKind.wrap .i64 (Int.tdiv z0 4))*2))))+1)) then
 ∃ r2:Int×Int,slices_xorshift_Next.C z1 r2 ∧
 (if z0≤(IntKind.wrap .i64 (bAnd .u64 r2.1 (IntKind.wrap .u64 (r1-1)))) then
 slices_breakPatternsCmpFunc_api_Set_attrset_compare.L2 x1 z0 r2 r1 z2 ((IntKind.wrap .i64 ((IntKind.wrap .i64 (bAnd .u64 r2.1 (IntKind.wrap .u64 (r1-1))))-z0))) k0_0 φ
 else
 slices_breakPatternsCmpFunc_api_Set_attrset_compare.L2 x1 z0 r2 r1 z2 ((IntKind.wrap .i64 (bAnd .u64 r2.1 (IntKind.wrap .u64 (r1-1))))) k0_0 φ)
 else
 φ k0_0)):L1 x1 z0 z1 r1 z2 k0_0 φ:=
 mIn <|
 mAsk 9 h dT dF (fun h=>
 mCal 4 h (fun _ h=>h) fun r2 _ h=>
 mAsk 9 h dT dF (fun h=>
 mFin 8 h) fun h=>
 mFin 3 h) fun h=>
 mRet 2 h
theorem L2_step (x1 z0:Int) (r2:Int×Int) (r1 z1 z2:Int) (k0_0:List Int) (φ:List Int→Prop) (h :
 ∃ a3,lget k0_0 ((IntKind.wrap .i64 (x1+z2)))=some a3 ∧
 ∃ a5,lget k0_0 z1=some a5 ∧
 ∃ a7,lget ((lset k0_0 z1 a3)) ((IntKind.wrap .i64 (x1+z2)))=some a7 ∧
 slices_breakPatternsCmpFunc_api_Set_attrset_compare.L1 x1 z0 r2.2 r1 ((IntKind.wrap .i64 (z1+1))) ((lset (lset k0_0 z1 a3) (IntKind.wrap .i64 (x1+z2)) a5)) φ):L2 x1 z0 r2 r1 z1 z2 k0_0 φ:=
 mIn <|
 mIy 11 (eI .u32) h fun a3 h4 h=>
 mLd 0 (eI .u32) h4 <|
 mIy 2 (eI .u32) h fun a5 h6 h=>
 mLd 0 (eI .u32) h6 <|
 mIyf 0 (eI .u32) h6 <|
 mStoL 0 (eI .u32) a3 h6 <|
 mIy 0 (eI .u32) h fun a7 h8 h=>
 mSto 0 (eI .u32) a5 h8 <|
 mFin 6 h
theorem enter (x1 x2:Int) (k0_0:List Int) (φ:List Int→Prop) (h :
 (if 8≤(IntKind.wrap .i64 (x2-x1)) then
 ∃ r1:Int,slices_nextPowerOfTwo.C ((IntKind.wrap .i64 (x2-x1))) r1 ∧
 slices_breakPatternsCmpFunc_api_Set_attrset_compare.L1 x1 ((IntKind.wrap .i64 (x2-x1))) ((IntKind.wrap .u64 (IntKind.wrap .i64 (x2-x1)))) r1 ((IntKind.wrap .i64 ((IntKind.wrap .i64 (x1+(IntKind.wrap .i64 ((IntKind.wrap .i64 (Int.tdiv (IntKind.wrap .i64 (x2-x1)) 4))*2))))-1))) k0_0 φ
 else
 φ k0_0)):∃ r,φ r∧C x1 x2 k0_0 r:=
 mEnt (fd:=Tryz.f151) (body:=B) (V:=W) (res:=res) <|
 mAsk 8 h dT dF (fun h=>
 mCal 10 h (fun _ h=>h) fun r1 _ h=>
 mFin 11 h) fun h=>
 mRet 2 h
end slices_breakPatternsCmpFunc_api_Set_attrset_compare
namespace slices_pdqsortCmpFunc_api_Set_attrset_compare
noncomputable def B:Code:=(Tryz.f141.body).getD .skip
def W:List Nat:=[0,1,2,3,4,10,11,12,13,14,15,16,17,18,19,20,25,32,39,56,75,80,97,125,1000000]
def res (r:List Int):D×List D:=(.tup [],[.own (r.map (eI .u32))])
def C (x1 x2 x3:Int) (k0_0 r:List Int):Prop:=Ret env 141 [.own (k0_0.map (eI .u32)),.lit (.int .i64 x1),.lit (.int .i64 x2),.lit (.int .i64 x3),.fn 123 []] (res r).1 (res r).2
def L1 (x1 x2 x3:Int) (z0 z1:Bool) (k0_0:List Int) (φ:List Int→Prop):Prop:=Pt env 141 W B [1,1,0] [(0,.alias 1000000 []),(1,.lit (.int .i64 x1)),(2,.lit (.int .i64 x2)),(3,.lit (.int .i64 x3)),(4,.fn 123 []),(10,.lit (.bool z0)),(11,.lit (.bool z1)),(1000000,.own (k0_0.map (eI .u32)))] (Lv env 141 Tryz.f141 5 res φ)
def L5 (x1 x2 x3:Int) (z0 z1:Bool) (k0_0:List Int) (φ:List Int→Prop):Prop:=Pt env 141 W B [1,1,0,0,0,1,1,1,1,0] [(0,.alias 1000000 []),(1,.lit (.int .i64 x1)),(2,.lit (.int .i64 x2)),(3,.lit (.int .i64 x3)),(4,.fn 123 []),(10,.lit (.bool z0)),(11,.lit (.bool z1)),(12,.lit (.int .i64 ((IntKind.wrap .i64 (x2-x1))))),(1000000,.own (k0_0.map (eI .u32)))] (Lv env 141 Tryz.f141 5 res φ)
def L4 (x1 x2 x3:Int) (z0 z1:Bool) (z2 z3:Int) (r79:List Int) (φ:List Int→Prop):Prop:=Pt env 141 W B [1,1,0,0,0,1,1,1,1,1,1,0,0] [(0,.alias 1000000 []),(1,.lit (.int .i64 x1)),(2,.lit (.int .i64 x2)),(3,.lit (.int .i64 x3)),(4,.fn 123 []),(10,.lit (.bool z0)),(11,.lit (.bool z1)),(12,.lit (.int .i64 ((IntKind.wrap .i64 (x2-x1))))),(13,.lit (.int .i64 z2)),(14,.lit (.int .i64 z3)),(1000000,.own (r79.map (eI .u32)))] (Lv env 141 Tryz.f141 5 res φ)
def L3 (x1 x2 x3:Int) (z0 z1:Bool) (z2:Int) (z3:List Int) (φ:List Int→Prop):Prop:=Pt env 141 W B [1,1,0,0,0,1,1,1,1,1,1,1,0,0] [(0,.alias 1000000 []),(1,.lit (.int .i64 x1)),(2,.lit (.int .i64 x2)),(3,.lit (.int .i64 x3)),(4,.fn 123 []),(10,.lit (.bool z0)),(11,.lit (.bool z1)),(12,.lit (.int .i64 ((IntKind.wrap .i64 (x2-x1))))),(13,.lit (.int .i64 z2)),(1000000,.own (z3.map (eI .u32)))] (Lv env 141 Tryz.f141 5 res φ)
def L2 (x1 x2:Int) (x3 z0:Int) (z1:List Int) (φ:List Int→Prop):Prop:=Pt env 141 W B [1,1,0,0,0,1,1,1,1,1,1,1,1,0] [(0,.alias 1000000 []),(1,.lit (.int .i64 x1)),(2,.lit (.int .i64 x2)),(3,.lit (.int .i64 x3)),(4,.fn 123 []),(12,.lit (.int .i64 ((IntKind.wrap .i64 (x2-x1))))),(13,.lit (.int .i64 z0)),(1000000,.own (z1.map (eI .u32)))] (Lv env 141 Tryz.f141 5 res φ)
theorem L1_step (x1 x2 x3:Int) (z0 z1:Bool) (k0_0:List Int) (φ:List Int→Prop) (h :
 (if (IntKind.wrap .i64 (x2-x1))≤12 then
 ∃ r100:List Int,slices_insertionSortCmpFunc_api_Set_attrset_compare.C x1 x2 k0_0 r100 ∧
 φ r100
 else
 (if x3=0 then
 ∃ r101:List Int,slices_heapSortCmpFunc_api_Set_attrset_compare.C x1 x2 k0_0 r101 ∧
 φ r101
 else
 (if z0=true then
 slices_pdqsortCmpFunc_api_Set_attrset_compare.L5 x1 x2 x3 z0 z1 k0_0 φ
 else
 ∃ r102:List Int,slices_breakPatternsCmpFunc_api_Set_attrset_compare.C x1 x2 k0_0 r102 ∧
 slices_pdqsortCmpFunc_api_Set_attrset_compare.L5 x1 x2 ((IntKind.wrap .i64 (x3-1))) z0 z1 r102 φ)))):L1 x1 x2 x3 z0 z1 k0_0 φ:=
 mIn <|
 mAsk 9 h dT dF (fun h=>
 mCal 7 h (fun _ h=>h) (hf:=(fun _=>clF_flat1 (flat_tup flts_nil) (flat_ow (e:=(eI .u32)) (fun _=>rfl)))) fun r100 _ h=>
 mRet 1 h) fun h=>
 mAsk 5 h beq_t beq_f (fun h=>
 mCal 7 h (fun _ h=>h) (hf:=(fun _=>clF_flat1 (flat_tup flts_nil) (flat_ow (e:=(eI .u32)) (fun _=>rfl)))) fun r101 _ h=>
 mRet 1 h) fun h=>
 mAsk 4 h id fls (fun h=>
 mFin 4 h) fun h=>
 mCal 8 h (fun _ h=>h) (hf:=(fun _=>clF_flat1 (flat_tup flts_nil) (flat_ow (e:=(eI .u32)) (fun _=>rfl)))) fun r102 _ h=>
 mFin 6 h
theorem L5_step (x1 x2 x3:Int) (z0 z1:Bool) (k0_0:List Int) (φ:List Int→Prop) (h :
 ∃ r103:Int×Int,slices_choosePivotCmpFunc_api_Set_attrset_compare.C k0_0 x1 x2 r103 ∧
 (if r103.2=2 then
 ∃ r104:List Int,slices_reverseRangeCmpFunc_api_Set_attrset_compare.C x1 x2 k0_0 r104 ∧
 slices_pdqsortCmpFunc_api_Set_attrset_compare.L4 x1 x2 x3 z0 z1 ((IntKind.wrap .i64 ((IntKind.wrap .i64 (x2-1))-(IntKind.wrap .i64 (r103.1-x1))))) 1 r104 φ
 else
 slices_pdqsortCmpFunc_api_Set_attrset_compare.L4 x1 x2 x3 z0 z1 r103.1 r103.2 k0_0 φ)):L5 x1 x2 x3 z0 z1 k0_0 φ:=
 mIn <|
 mCal 5 h (fun _ h=>h) (hr:=by exact (pr_snap (snap_ow (s:=1000000) (ps:=[]) (l:=k0_0) (e:=(eI .u32)) (e':=(eI .u32)) (fun _=>rfl) (by kernel_rfl)) (pr_k (pr_k (pr_k pr_nil))))) (hf:=(fun _=>clF_flat (flat_tup (flts_cons rfl (flts_cons rfl flts_nil))) rfl)) fun r103 _ h=>
 mAsk 8 h beq_t beq_f (fun h=>
 mCal 7 h (fun _ h=>h) (hf:=(fun _=>clF_flat1 (flat_tup flts_nil) (flat_ow (e:=(eI .u32)) (fun _=>rfl)))) fun r104 _ h=>
 mFin 13 h) fun h=>
 mFin 3 h
theorem L4_step (x1 x2 x3:Int) (z0 z1:Bool) (z2 z3:Int) (r79:List Int) (φ:List Int→Prop) (h :
 (if z0=true then
 (if z1=true then
 (if z3=1 then
 ∃ r105:Bool×List Int,slices_partialInsertionSortCmpFunc_api_Set_attrset_compare.C x1 x2 r79 r105 ∧
 (if r105.1=true then
 φ r105.2
 else
 slices_pdqsortCmpFunc_api_Set_attrset_compare.L3 x1 x2 x3 z0 z1 z2 r105.2 φ)
 else
 slices_pdqsortCmpFunc_api_Set_attrset_compare.L3 x1 x2 x3 z0 z1 z2 r79 φ)
 else
 slices_pdqsortCmpFunc_api_Set_attrset_compare.L3 x1 x2 x3 z0 z1 z2 r79 φ)
 else
 slices_pdqsortCmpFunc_api_Set_attrset_compare.L3 x1 x2 x3 z0 z1 z2 r79 φ)):L4 x1 x2 x3 z0 z1 z2 z3 r79 φ:=
 mIn <|
 mAsk 1 h id fls (fun h=>
 mAsk 1 h id fls (fun h=>
 mAsk 3 h beq_t beq_f (fun h=>
 mCal 8 h (fun _ h=>h) (hf:=(fun _=>clF_flat1 rfl (flat_ow (e:=(eI .u32)) (fun _=>rfl)))) fun r105 _ h=>
 mCon 1 h id fls (fun h=>
 mRet 0 h) fun h=>
 mFin 1 h) fun h=>
 mFin 4 h) fun h=>
 mFin 8 h) fun h=>
 mFin 10 h
theorem L3_step (x1 x2 x3:Int) (z0 z1:Bool) (z2:Int) (z3:List Int) (φ:List Int→Prop) (h :
 (if 0<x1 then
 ∃ a106,lget z3 ((IntKind.wrap .i64 (x1-1)))=some a106 ∧
 ∃ a108,lget z3 z2=some a108 ∧
 ∃ r110:Int,attrset_compare.C a106 a108 r110 ∧
 (if r110<0 then
 slices_pdqsortCmpFunc_api_Set_attrset_compare.L2 x1 x2 x3 z2 z3 φ
 else
 ∃ r111:Int×List Int,slices_partitionEqualCmpFunc_api_Set_attrset_compare.C x1 x2 z2 z3 r111 ∧
 slices_pdqsortCmpFunc_api_Set_attrset_compare.L1 r111.1 x2 x3 z0 z1 r111.2 φ)
 else
 slices_pdqsortCmpFunc_api_Set_attrset_compare.L2 x1 x2 x3 z2 z3 φ)):L3 x1 x2 x3 z0 z1 z2 z3 φ:=
 mIn <|
 mAsk 2 h dT dF (fun h=>
 mIy 5 (eI .u32) h fun a106 h107 h=>
 mLd 0 (eI .u32) h107 <|
 mIy 2 (eI .u32) h fun a108 h109 h=>
 mLd 0 (eI .u32) h109 <|
 mCal 0 h (fun _ h=>h) fun r110 _ h=>
 mAsk 0 h dT dF (fun h=>
 mFin 5 h) fun h=>
 mCal 10 h (fun _ h=>h) (hf:=(fun _=>clF_flat1 rfl (flat_ow (e:=(eI .u32)) (fun _=>rfl)))) fun r111 _ h=>
 mFin 7 h) fun h=>
 mFin 18 h
theorem L2_step (x1 x2:Int) (x3 z0:Int) (z1:List Int) (φ:List Int→Prop) (h :
 ∃ r112:Int×Bool×List Int,slices_partitionCmpFunc_api_Set_attrset_compare.C x1 x2 z0 z1 r112 ∧
 (if (IntKind.wrap .i64 (r112.1-x1))<(IntKind.wrap .i64 (x2-r112.1)) then
 ∃ r113:List Int,slices_pdqsortCmpFunc_api_Set_attrset_compare.C x1 r112.1 x3 r112.2.2 r113 ∧
 slices_pdqsortCmpFunc_api_Set_attrset_compare.L1 ((IntKind.wrap .i64 (r112.1+1))) x2 x3 ((decide ((IntKind.wrap .i64 (Int.tdiv (IntKind.wrap .i64 (x2-x1)) 8))≤(IntKind.wrap .i64 (r112.1-x1))))) r112.2.1 r113 φ
 else
 ∃ r114:List Int,slices_pdqsortCmpFunc_api_Set_attrset_compare.C ((IntKind.wrap .i64 (r112.1+1))) x2 x3 r112.2.2 r114 ∧
 slices_pdqsortCmpFunc_api_Set_attrset_compare.L1 x1 r112.1 x3 ((decide ((IntKind.wrap .i64 (Int.tdiv (IntKind.wrap .i64 (x2-x1)) 8))≤(IntKind.wrap .i64 (x2-r112.1))))) r112.2.1 r114 φ)):L2 x1 x2 x3 z0 z1 φ:=
 mIn <|
 mCal 6 h (fun _ h=>h) (hf:=(fun _=>clF_flat1 (flat_tup (flts_cons rfl (flts_cons rfl flts_nil))) (flat_ow (e:=(eI .u32)) (fun _=>rfl)))) fun r112 _ h=>
 mAsk 28 h dT dF (fun h=>
 mCal 14 h (fun _ h=>h) (hf:=(fun _=>clF_flat1 (flat_tup flts_nil) (flat_ow (e:=(eI .u32)) (fun _=>rfl)))) fun r113 _ h=>
 mFin 6 h) fun h=>
 mCal 15 h (fun _ h=>h) (hf:=(fun _=>clF_flat1 (flat_tup flts_nil) (flat_ow (e:=(eI .u32)) (fun _=>rfl)))) fun r114 _ h=>
 mFin 5 h
theorem enter (x1 x2 x3:Int) (k0_0:List Int) (φ:List Int→Prop) (h :
 slices_pdqsortCmpFunc_api_Set_attrset_compare.L1 x1 x2 x3 true true k0_0 φ):∃ r,φ r∧C x1 x2 x3 k0_0 r:=
 mEnt (fd:=Tryz.f141) (body:=B) (V:=W) (res:=res) <|
 mFin 6 h
end slices_pdqsortCmpFunc_api_Set_attrset_compare
namespace slices_SortFunc_sapi_Set_api_Set_attrset_compare
noncomputable def B:Code:=(Tryz.f122.body).getD .skip
def W:List Nat:=[0,1,4,1000000]
def res (r:List Int):D×List D:=(.tup [],[.own (r.map (eI .u32))])
def C (k0_0 r:List Int):Prop:=Ret env 122 [.own (k0_0.map (eI .u32)),.fn 123 []] (res r).1 (res r).2
theorem enter (k0_0:List Int) (φ:List Int→Prop) (h :
 ∃ r1:Int,math_bits_Len.C ((IntKind.wrap .u64 (k0_0.length:Int))) r1 ∧
 ∃ r2:List Int,slices_pdqsortCmpFunc_api_Set_attrset_compare.C 0 ((k0_0.length:Int)) r1 k0_0 r2 ∧
 φ r2):∃ r,φ r∧C k0_0 r:=
 mEnt (fd:=Tryz.f122) (body:=B) (V:=W) (res:=res) <|
 mLen 2 (eI .u32) k0_0 <|
 mCal 7 h (fun _ h=>h) fun r1 _ h=>
 mCal 1 h (fun _ h=>h) (hf:=(fun _=>clF_flat1 (flat_tup flts_nil) (flat_ow (e:=(eI .u32)) (fun _=>rfl)))) fun r2 _ h=>
 mRet 0 h
end slices_SortFunc_sapi_Set_api_Set_attrset_compare
namespace slices_Compact_sapi_Set_api_Set
noncomputable def B:Code:=(Tryz.f124.body).getD .skip
def W:List Nat:=[0,2,3,4,5,8,13,25,32,44]
def res (r:(List Int×Bool)):D×List D:=((sown (r.1.map (eI .u32)) r.2),[])
def C (k0_0:List Int) (r:(List Int×Bool)):Prop:=Ret env 124 [.own (k0_0.map (eI .u32))] (res r).1 (res r).2
def L1 (k0_0:List Int) (z0:Int) (φ:(List Int×Bool)→Prop):Prop:=Pt env 124 W B [1,1,0,1,0] [(0,.own (k0_0.map (eI .u32))),(3,.lit (.int .i64 z0))] (Lv env 124 Tryz.f124 1 res φ)
def L2 (k0_0:List Int) (z0:Int) (y4_o_L2 y4_n_L2:Nat) (z1:Int) (φ:(List Int×Bool)→Prop):Prop:=Pt env 124 W B [1,1,0,1,0,0,1,0,0,1,0,1,0,1,0] [(0,.own (k0_0.map (eI .u32))),(3,.lit (.int .i64 z0)),(4,.sub 0 [] y4_o_L2 y4_n_L2),(5,.lit (.int .i64 z1))] (Lv env 124 Tryz.f124 1 res φ)
def L3 (z0:List Int) (z1:Int) (y4_o_L2 y4_n_L2:Nat) (z2:Int) (φ:(List Int×Bool)→Prop):Prop:=Pt env 124 W B [1,1,0,1,0,0,1,0,0,1,0,1,0,1,0,0,1,1] [(0,.own (z0.map (eI .u32))),(3,.lit (.int .i64 z1)),(4,.sub 0 [] y4_o_L2 y4_n_L2),(5,.lit (.int .i64 z2))] (Lv env 124 Tryz.f124 1 res φ)
theorem L1_step (k0_0:List Int) (z0:Int) (φ:(List Int×Bool)→Prop) (h :
 (if z0<(k0_0.length:Int) then
 ∃ a1,lget k0_0 z0=some a1 ∧
 ∃ a3,lget k0_0 ((IntKind.wrap .i64 (z0-1)))=some a3 ∧
 (if a1=a3 then
 0≤z0 ∧
 (z0.toNat≤k0_0.length∧k0_0.length≤k0_0.length) ∧
 slices_Compact_sapi_Set_api_Set.L2 k0_0 z0 z0.toNat ((k0_0.length-z0.toNat)) 1 φ
 else
 slices_Compact_sapi_Set_api_Set.L1 k0_0 ((IntKind.wrap .i64 (z0+1))) φ)
 else
 φ (⟨k0_0,true⟩))):L1 k0_0 z0 φ:=
 mIn <|
 mLen 4 (eI .u32) k0_0 <|
 mAsk 0 h dT dF (fun h=>
 mIy 6 (eI .u32) h fun a1 h2 h=>
 mLd 0 (eI .u32) h2 <|
 mIy 3 (eI .u32) h fun a3 h4 h=>
 mLd 0 (eI .u32) h4 <|
 mAsk 0 h beq_t beq_f (fun h=>
 h.elim fun h5 h=>
 h.elim fun h6 h=>
 mVl 5 (val_slice_ow (s:=0) (ps:=[]) (t:=71) (x:=(.tmp 26)) (lo:=(some (.tmp 27))) (hi:=none) (lo':=some (z0).toNat) (hi':=none) (e:=(eI .u32)) (l:=k0_0) (et:=34) (k:=1) (by kernel_rfl) (by kernel_rfl) (elemsOf_ow (by kernel_rfl)) (optNat_some (i:=z0) (q:=.i64) (by kernel_rfl) h5) optNat_none (by kernel_rfl) (by kernel_rfl) (fun _=>rfl) (by kernel_rfl) h6.1 h6.2) <|
 mFin 5 h) fun h=>
 mFin 8 h) fun h=>
 mRet 7 h
theorem L2_step (k0_0:List Int) (z0:Int) (y4_o_L2 y4_n_L2:Nat) (z1:Int) (φ:(List Int×Bool)→Prop) (h :
 y4_o_L2+y4_n_L2≤k0_0.length ∧
 (if z1<((List.take y4_n_L2 (List.drop y4_o_L2 k0_0)).length:Int) then
 ∃ a10,lget k0_0 (((y4_o_L2:Int)+z1))=some a10 ∧
 (0≤z1∧z1<((y4_n_L2:Nat):Int)) ∧
 y4_o_L2+y4_n_L2≤k0_0.length ∧
 ∃ a14,lget k0_0 (((y4_o_L2:Int)+(IntKind.wrap .i64 (z1-1))))=some a14 ∧
 (0≤(IntKind.wrap .i64 (z1-1))∧(IntKind.wrap .i64 (z1-1))<((y4_n_L2:Nat):Int)) ∧
 y4_o_L2+y4_n_L2≤k0_0.length ∧
 (if a10=a14 then
 slices_Compact_sapi_Set_api_Set.L3 k0_0 z0 y4_o_L2 y4_n_L2 z1 φ
 else
 (0≤z1∧z1<((y4_n_L2:Nat):Int)) ∧
 y4_o_L2+y4_n_L2≤k0_0.length ∧
 ∃ a18,lget k0_0 z0=some a18 ∧
 slices_Compact_sapi_Set_api_Set.L3 ((lset k0_0 z0 a10)) ((IntKind.wrap .i64 (z0+1))) y4_o_L2 y4_n_L2 z1 φ)
 else
 0≤z0 ∧
 (z0.toNat≤k0_0.length∧k0_0.length≤k0_0.length) ∧
 z0.toNat+(k0_0.length-z0.toNat)≤k0_0.length ∧
 0≤z0 ∧
 z0.toNat+(k0_0.length-z0.toNat)≤k0_0.length ∧
 z0.toNat≤k0_0.length ∧
 (z0.toNat+(k0_0.length-z0.toNat)≤k0_0.length∧z0.toNat≤k0_0.length∧z0.toNat≤z0.toNat) ∧
 φ (⟨(List.take z0.toNat k0_0),(!(((List.take z0.toNat k0_0)).isEmpty))⟩))):L2 k0_0 z0 y4_o_L2 y4_n_L2 z1 φ:=
 mIn <|
 h.elim fun h7 h=>
 mVl 4 (val_len (x:=(.tmp 30)) (t:=71) (et:=34) (d:=.sub 0 [] y4_o_L2 y4_n_L2) (e:=(eI .u32)) (l:=(List.take y4_n_L2 (List.drop y4_o_L2 k0_0))) (by kernel_rfl) (by kernel_rfl) (elemsOf_subow (s:=0) (ps:=[]) (l:=k0_0) (e:=(eI .u32)) (by kernel_rfl) h7) (by kernel_rfl)) <|
 mAsk 0 h dT dF (fun h=>
 h.elim fun a10 h=>h.elim fun h11 h=>
 h.elim fun h9 h=>
 h.elim fun h8 h=>
 mVl 6 (val_idx_subpl (s:=0) (ps:=[]) (off:=y4_o_L2) (len:=y4_n_L2) (t:=71) (x:=(.tmp 35)) (ix:=(.tmp 36)) (et:=34) (k:=1) (e:=(eI .u32)) (l:=k0_0) (i:=z1) (q:=.i64) (a:=a10) (by kernel_rfl) (by kernel_rfl) (by kernel_rfl) (by kernel_rfl) (by kernel_rfl) (by kernel_rfl) h8 h9 h11 (by kernel_rfl)) <|
 mLd 0 (eI .u32) h11 <|
 h.elim fun a14 h=>h.elim fun h15 h=>
 h.elim fun h13 h=>
 h.elim fun h12 h=>
 mVl 3 (val_idx_subpl (s:=0) (ps:=[]) (off:=y4_o_L2) (len:=y4_n_L2) (t:=71) (x:=(.tmp 39)) (ix:=(.tmp 41)) (et:=34) (k:=1) (e:=(eI .u32)) (l:=k0_0) (i:=(IntKind.wrap .i64 (z1-1))) (q:=.i64) (a:=a14) (by kernel_rfl) (by kernel_rfl) (by kernel_rfl) (by kernel_rfl) (by kernel_rfl) (by kernel_rfl) h12 h13 h15 (by kernel_rfl)) <|
 mLd 0 (eI .u32) h15 <|
 mAskN 0 h bne_t bne_f (fun h=>
 h.elim fun h17 h=>
 h.elim fun h16 h=>
 mVl 7 (val_idx_subpl (s:=0) (ps:=[]) (off:=y4_o_L2) (len:=y4_n_L2) (t:=71) (x:=(.tmp 47)) (ix:=(.tmp 48)) (et:=34) (k:=1) (e:=(eI .u32)) (l:=k0_0) (i:=z1) (q:=.i64) (a:=a10) (by kernel_rfl) (by kernel_rfl) (by kernel_rfl) (by kernel_rfl) (by kernel_rfl) (by kernel_rfl) h16 h17 h11 (by kernel_rfl)) <|
 mLd 0 (eI .u32) h11 <|
 mIy 0 (eI .u32) h fun a18 h19 h=>
 mSto 0 (eI .u32) a10 h19 <|
 mFin 6 h) fun h=>
 mFin 3 h) fun h=>
 h.elim fun h20 h=>
 h.elim fun h21 h=>
 mVl 6 (val_slice_ow (s:=0) (ps:=[]) (t:=71) (x:=(.tmp 54)) (lo:=(some (.tmp 55))) (hi:=none) (lo':=some (z0).toNat) (hi':=none) (e:=(eI .u32)) (l:=k0_0) (et:=34) (k:=1) (by kernel_rfl) (by kernel_rfl) (elemsOf_ow (by kernel_rfl)) (optNat_some (i:=z0) (q:=.i64) (by kernel_rfl) h20) optNat_none (by kernel_rfl) (by kernel_rfl) (fun _=>rfl) (by kernel_rfl) h21.1 h21.2) <|
 h.elim fun h22 h=>
 mOp 0 (op_clear (t:=71) (x:=(.tmp 56)) (s:=0) (ps:=[]) (off:=z0.toNat) (len:=(k0_0.length-z0.toNat)) (l:=k0_0) (e:=(eI .u32)) (et:=34) (z:=.lit (.int .u32 0)) (k:=1) (by kernel_rfl) (by kernel_rfl) (by kernel_rfl) (by kernel_rfl) (by kernel_rfl) (by kernel_rfl) (by kernel_rfl) (by kernel_rfl) (fun _=>rfl) h22 (by kernel_rfl)) <|
 h.elim fun h23 h=>
 h.elim fun h24 h=>
 h.elim fun h25 h=>
 mVl 4 (val_slice_clr (t:=71) (x:=(.tmp 57)) (hi:=(some (.tmp 58))) (hi':=z0.toNat) (e:=(eI .u32)) (l:=k0_0) (off:=z0.toNat) (len:=(k0_0.length-z0.toNat)) (z:=.lit (.int .u32 0)) (et:=34) (k:=1) (s:=0) (ps:=[]) (by kernel_rfl) (by kernel_rfl) (by kernel_rfl) (optNat_some (i:=z0) (q:=.i64) (by kernel_rfl) h23) (by kernel_rfl) (by kernel_rfl) (fun _=>rfl) (by kernel_rfl) (by kernel_rfl) h24 h25) <|
 h.elim fun h26 h=>
 mRet 2 h (hl:=(leave_sub (t:=2) (s:=0) (n:=z0.toNat) (m:=(List.take z0.toNat k0_0)) (e:=(eI .u32)) (es:=clr (eI .u32) k0_0 z0.toNat (k0_0.length-z0.toNat) (.lit (.int .u32 0))) (by kernel_rfl) (by kernel_rfl) (by kernel_rfl) (by rw [clr_len (by first | exact h26.1 | omega)];exact h26.2.1) (clr_take h26.1 h26.2.2) (by kernel_rfl)))
theorem L3_step (z0:List Int) (z1:Int) (y4_o_L2 y4_n_L2:Nat) (z2:Int) (φ:(List Int×Bool)→Prop) (h :
 slices_Compact_sapi_Set_api_Set.L2 z0 z1 y4_o_L2 y4_n_L2 ((IntKind.wrap .i64 (z2+1))) φ):L3 z0 z1 y4_o_L2 y4_n_L2 z2 φ:=
 mIn <|
 mFin 5 h
theorem enter (k0_0:List Int) (φ:(List Int×Bool)→Prop) (h :
 (if (k0_0.length:Int)<2 then
 φ (⟨k0_0,true⟩)
 else
 slices_Compact_sapi_Set_api_Set.L1 k0_0 1 φ)):∃ r,φ r∧C k0_0 r:=
 mEnt (fd:=Tryz.f124) (body:=B) (V:=W) (res:=res) <|
 mLen 5 (eI .u32) k0_0 <|
 mAsk 0 h dT dF (fun h=>
 mRet 6 h) fun h=>
 mFin 6 h
end slices_Compact_sapi_Set_api_Set
namespace drossref02_Has
noncomputable def B:Code:=(Tryz.f68.body).getD .skip
def W:List Nat:=[0,1,4]
def res (r:Bool):D×List D:=(.lit (.bool r),[])
def C (x0 x1:Int) (r:Bool):Prop:=Ret env 68 [.lit (.int .u32 x0),.lit (.int .i64 x1)] (res r).1 (res r).2
theorem enter (x0 x1:Int) (φ:Bool→Prop) (h :
 (if 0≤x1 then
 (if x1<32 then
 0≤x1 ∧
 φ (((bAnd .u32 (shrw .u32 x0 x1) 1) == 1))
 else
 φ false)
 else
 φ false)):∃ r,φ r∧C x0 x1 r:=
 mEnt (fd:=Tryz.f68) (body:=B) (V:=W) (res:=res) <|
 mAsk 5 h dT dF (fun h=>
 mAsk 2 h dT dF (fun h=>
 h.elim fun h1 h=>
 mBi 4 (bin_shr (t:=34) (q:=.u32) (q':=.i64) (i1:=x0) h1) <|
 mRet 5 h) fun h=>
 mRet 10 h) fun h=>
 mRet 13 h
end drossref02_Has
namespace attrset_Order
noncomputable def B:Code:=(Tryz.f94.body).getD .skip
def W:List Nat:=[0,2,3]
def res (r:List Int):D×List D:=(.sl (r.map (eI .u32)),[])
def C (x0 r:List Int):Prop:=Ret env 94 [.sl (x0.map (eI .u32))] (res r).1 (res r).2
theorem enter (x0:List Int) (φ:List Int→Prop) (h :
 x0.length*4≤140737488355328 ∧
 ∃ r2:List Int,slices_SortFunc_sapi_Set_api_Set_attrset_compare.C x0 r2 ∧
 ∃ r3:(List Int×Bool),slices_Compact_sapi_Set_api_Set.C r2 r3 ∧
 φ r3.1):∃ r,φ r∧C x0 r:=
 mEnt (fd:=Tryz.f94) (body:=B) (V:=W) (res:=res) <|
 h.elim fun h1 h=>
 mCalP 5 (show Ret env 73 [.sl (x0.map (eI .u32))] (.own (x0.map (eI .u32))) [] from ret_clone (k:=1) (b:=4) (e:=(eI .u32)) (l:=x0) (by kernel_rfl) (fun _=>rfl) h1) (hf:=(clF_flat (flat_ow (e:=(eI .u32)) (fun _=>rfl)) rfl)) <|
 mCal 4 h (fun _ h=>h) (hf:=(fun _=>clF_flat1 (flat_tup flts_nil) (flat_ow (e:=(eI .u32)) (fun _=>rfl)))) fun r2 _ h=>
 mCalE 3 h (fun _ h=>h) (fun (r3:(List Int×Bool))=>cold_sown (l:=r3.1) (e:=(eI .u32)) rfl (fun _=>rfl)) (hf:=(fun _=>clF_flatR (flat_sown (e:=(eI .u32)) (fun _=>rfl)) rfl)) fun r3 _ h=>
 mRet 2 h
end attrset_Order
namespace drossref02_In
noncomputable def B:Code:=(Tryz.f49.body).getD .skip
def W:List Nat:=[0,1,4,5,9,17]
def res (r:Bool):D×List D:=(.lit (.bool r),[])
def C (x0:List Int) (x1:Int) (r:Bool):Prop:=Ret env 49 [.sl (x0.map (eI .u32)),.lit (.int .u32 x1)] (res r).1 (res r).2
def L1 (x0:List Int) (x1 z0:Int) (φ:Bool→Prop):Prop:=Pt env 49 W B [1,0,1,0] [(0,.sl (x0.map (eI .u32))),(1,.lit (.int .u32 x1)),(5,.lit (.int .i64 z0))] (Lv env 49 Tryz.f49 2 res φ)
theorem L1_step (x0:List Int) (x1 z0:Int) (φ:Bool→Prop) (h :
 (if z0<(x0.length:Int) then
 ∃ a1,lget x0 z0=some a1 ∧
 (if a1=x1 then
 φ true
 else
 drossref02_In.L1 x0 x1 ((IntKind.wrap .i64 (z0+1))) φ)
 else
 φ false)):L1 x0 x1 z0 φ:=
 mIn <|
 mLen 4 (eI .u32) x0 <|
 mAsk 0 h dT dF (fun h=>
 mIx 6 (eI .u32) h fun a1 h2 h=>
 mAsk 2 h beq_t beq_f (fun h=>
 mRet 5 h) fun h=>
 mFin 8 h) fun h=>
 mRet 6 h
theorem enter (x0:List Int) (x1:Int) (φ:Bool→Prop) (h :
 drossref02_In.L1 x0 x1 0 φ):∃ r,φ r∧C x0 x1 r:=
 mEnt (fd:=Tryz.f49) (body:=B) (V:=W) (res:=res) <|
 mFin 6 h
end drossref02_In
namespace closure_Close
end closure_Close
namespace drossref09_Close
end drossref09_Close
namespace drossref01_Valid
noncomputable def B:Code:=(Tryz.f79.body).getD .skip
def W:List Nat:=[0,1,2,4,5,15,20]
def res (r:Bool):D×List D:=(.lit (.bool r),[])
def C (x0:api_Value) (r:Bool):Prop:=Ret env 79 [.agg [.lit (.int .i64 x0.Kind),.lit (.int .i64 x0.Num),.lit (.string x0.Str)]] (res r).1 (res r).2
theorem enter (x0:api_Value) (φ:Bool→Prop) (h :
 (if x0.Kind=0 then
 (if x0.Num=0 then
 φ ((x0.Str.toList == ((⟨#[]⟩:ByteArray)).toList))
 else
 φ false)
 else
 (if x0.Kind=1 then
 φ ((x0.Str.toList == ((⟨#[]⟩:ByteArray)).toList))
 else
 (if x0.Kind=2 then
 (if x0.Num=0 then
 φ ((decide ((bsize x0.Str)≤200)))
 else
 φ false)
 else
 (if x0.Kind=3 then
 (if 1≤x0.Num then
 φ ((x0.Str.toList == ((⟨#[]⟩:ByteArray)).toList))
 else
 φ false)
 else
 φ false))))):∃ r,φ r∧C x0 r:=
 mEnt (fd:=Tryz.f79) (body:=B) (V:=W) (res:=res) <|
 mCon 12 h beq_t beq_f (fun h=>
 mAsk 3 h beq_t beq_f (fun h=>
 mRet 7 h) fun h=>
 mRet 7 h) fun h=>
 mCon 4 h beq_t beq_f (fun h=>
 mRet 6 h) fun h=>
 mCon 4 h beq_t beq_f (fun h=>
 mAsk 3 h beq_t beq_f (fun h=>
 mRet 8 h) fun h=>
 mRet 8 h) fun h=>
 mAsk 4 h beq_t beq_f (fun h=>
 mAsk 3 h dT dF (fun h=>
 mRet 8 h) fun h=>
 mRet 8 h) fun h=>
 mRet 12 h
end drossref01_Valid
namespace drossref01_Valids
noncomputable def B:Code:=(Tryz.f39.body).getD .skip
def W:List Nat:=[0,2,3,7,15]
def res (r:Bool):D×List D:=(.lit (.bool r),[])
def C (x0:List api_Value) (r:Bool):Prop:=Ret env 39 [.sl (x0.map enc_api_Value)] (res r).1 (res r).2
def L1 (x0:List api_Value) (z0:Int) (φ:Bool→Prop):Prop:=Pt env 39 W B [1,0,1,0] [(0,.sl (x0.map enc_api_Value)),(3,.lit (.int .i64 z0))] (Lv env 39 Tryz.f39 1 res φ)
theorem L1_step (x0:List api_Value) (z0:Int) (φ:Bool→Prop) (h :
 (if z0<(x0.length:Int) then
 ∃ a1,lget x0 z0=some a1 ∧
 ∃ r3:Bool,drossref01_Valid.C a1 r3 ∧
 (if r3=true then
 drossref01_Valids.L1 x0 ((IntKind.wrap .i64 (z0+1))) φ
 else
 φ false)
 else
 φ true)):L1 x0 z0 φ:=
 mIn <|
 mLen 4 enc_api_Value x0 <|
 mAsk 0 h dT dF (fun h=>
 mIx 6 enc_api_Value h fun a1 h2 h=>
 mCalB 1 h (fun _ h=>h) (fun _ h=>
 mFin 9 h) fun _ h=>
 mRet 6 h) fun h=>
 mRet 6 h
theorem enter (x0:List api_Value) (φ:Bool→Prop) (h :
 drossref01_Valids.L1 x0 0 φ):∃ r,φ r∧C x0 r:=
 mEnt (fd:=Tryz.f39) (body:=B) (V:=W) (res:=res) <|
 mFin 6 h
end drossref01_Valids
namespace drossref03_letter
noncomputable def B:Code:=(Tryz.f77.body).getD .skip
def W:List Nat:=[0,2]
def res (r:Bool):D×List D:=(.lit (.bool r),[])
def C (x0:Int) (r:Bool):Prop:=Ret env 77 [.lit (.int .u8 x0)] (res r).1 (res r).2
theorem enter (x0:Int) (φ:Bool→Prop) (h :
 (if 97≤x0 then
 (if x0≤122 then
 φ true
 else
 (if 65≤x0 then
 (if x0≤90 then
 φ true
 else
 φ ((x0 == 95)))
 else
 φ ((x0 == 95))))
 else
 (if 65≤x0 then
 (if x0≤90 then
 φ true
 else
 φ ((x0 == 95)))
 else
 φ ((x0 == 95))))):∃ r,φ r∧C x0 r:=
 mEnt (fd:=Tryz.f77) (body:=B) (V:=W) (res:=res) <|
 mAsk 5 h dT dF (fun h=>
 mAsk 2 h dT dF (fun h=>
 mRet 15 h) fun h=>
 mAsk 3 h dT dF (fun h=>
 mAsk 2 h dT dF (fun h=>
 mRet 8 h) fun h=>
 mRet 8 h) fun h=>
 mRet 11 h) fun h=>
 mAsk 6 h dT dF (fun h=>
 mAsk 2 h dT dF (fun h=>
 mRet 8 h) fun h=>
 mRet 8 h) fun h=>
 mRet 11 h
end drossref03_letter
namespace drossref03_Name
noncomputable def B:Code:=(Tryz.f37.body).getD .skip
def W:List Nat:=[0,2,3,21,25,44]
def res (r:Bool):D×List D:=(.lit (.bool r),[])
def C (x0:ByteArray) (r:Bool):Prop:=Ret env 37 [.lit (.string x0)] (res r).1 (res r).2
def L1 (x0:ByteArray) (z0:Int) (φ:Bool→Prop):Prop:=Pt env 37 W B [1,1,0,1,0] [(0,.lit (.string x0)),(3,.lit (.int .i64 z0))] (Lv env 37 Tryz.f37 1 res φ)
def L2 (x0:ByteArray) (z0:Int) (φ:Bool→Prop):Prop:=Pt env 37 W B [1,1,0,1,0,0,1,1] [(0,.lit (.string x0)),(3,.lit (.int .i64 z0))] (Lv env 37 Tryz.f37 1 res φ)
theorem L1_step (x0:ByteArray) (z0:Int) (φ:Bool→Prop) (h :
 (if z0<(bsize x0) then
 ∃ b5,((0:Int)≤z0∧x0[(z0).toNat]? = some b5) ∧
 ∃ r8:Bool,drossref03_letter.C ((u8i b5)) r8 ∧
 (if r8=true then
 drossref03_Name.L2 x0 z0 φ
 else
 ∃ b9,((0:Int)≤z0∧x0[(z0).toNat]? = some b9) ∧
 (if (u8i b9)<48 then
 φ false
 else
 ∃ b12,((0:Int)≤z0∧x0[(z0).toNat]? = some b12) ∧
 (if 57<(u8i b12) then
 φ false
 else
 drossref03_Name.L2 x0 z0 φ)))
 else
 φ true)):L1 x0 z0 φ:=
 mIn <|
 mAsk 5 h dT dF (fun h=>
 mSt 6 h fun b5 h=>
 mCalB 0 h (fun _ h=>h) (fun _ h=>
 mFin 16 h) fun _ h=>
 mSt 4 h fun b9 h=>
 mAsk 0 h dT dF (fun h=>
 mRet 12 h) fun h=>
 mSt 3 h fun b12 h=>
 mAsk 0 h dT dF (fun h=>
 mRet 7 h) fun h=>
 mFin 5 h) fun h=>
 mRet 6 h
theorem L2_step (x0:ByteArray) (z0:Int) (φ:Bool→Prop) (h :
 drossref03_Name.L1 x0 ((IntKind.wrap .i64 (z0+1))) φ):L2 x0 z0 φ:=
 mIn <|
 mFin 5 h
theorem enter (x0:ByteArray) (φ:Bool→Prop) (h :
 (if (bsize x0)=0 then
 φ false
 else
 (if 24<(bsize x0) then
 φ false
 else
 ∃ b1,((0:Int)≤0∧x0[((0:Int)).toNat]? = some b1) ∧
 ∃ r4:Bool,drossref03_letter.C ((u8i b1)) r4 ∧
 (if r4=true then
 (if x0.toList=((⟨#[110,117,108,108]⟩:ByteArray)).toList then
 φ false
 else
 drossref03_Name.L1 x0 0 φ)
 else
 φ false)))):∃ r,φ r∧C x0 r:=
 mEnt (fd:=Tryz.f37) (body:=B) (V:=W) (res:=res) <|
 mAsk 6 h beq_t beq_f (fun h=>
 mRet 20 h) fun h=>
 mAsk 3 h dT dF (fun h=>
 mRet 16 h) fun h=>
 mSt 3 h fun b1 h=>
 mCalB 0 h (fun _ h=>h) (fun _ h=>
 mAsk 4 h seq_t seq_f (fun h=>
 mRet 6 h) fun h=>
 mFin 7 h) fun _ h=>
 mRet 11 h
end drossref03_Name
namespace drossref03_Attr
noncomputable def B:Code:=(Tryz.f78.body).getD .skip
def W:List Nat:=[0,1,4,5,9,17]
def res (r:Int):D×List D:=(.lit (.int .i64 r),[])
def C (x0:List ByteArray) (x1:ByteArray) (r:Int):Prop:=Ret env 78 [.sl (x0.map eS),.lit (.string x1)] (res r).1 (res r).2
def L1 (x0:List ByteArray) (x1:ByteArray) (z0:Int) (φ:Int→Prop):Prop:=Pt env 78 W B [1,0,1,0] [(0,.sl (x0.map eS)),(1,.lit (.string x1)),(5,.lit (.int .i64 z0))] (Lv env 78 Tryz.f78 2 res φ)
theorem L1_step (x0:List ByteArray) (x1:ByteArray) (z0:Int) (φ:Int→Prop) (h :
 (if z0<(x0.length:Int) then
 ∃ a1,lget x0 z0=some a1 ∧
 (if a1.toList=x1.toList then
 φ z0
 else
 drossref03_Attr.L1 x0 x1 ((IntKind.wrap .i64 (z0+1))) φ)
 else
 φ ((-1)))):L1 x0 x1 z0 φ:=
 mIn <|
 mLen 4 eS x0 <|
 mAsk 0 h dT dF (fun h=>
 mIx 6 eS h fun a1 h2 h=>
 mAsk 2 h seq_t seq_f (fun h=>
 mRet 6 h) fun h=>
 mFin 8 h) fun h=>
 mRet 6 h
theorem enter (x0:List ByteArray) (x1:ByteArray) (φ:Int→Prop) (h :
 drossref03_Attr.L1 x0 x1 0 φ):∃ r,φ r∧C x0 x1 r:=
 mEnt (fd:=Tryz.f78) (body:=B) (V:=W) (res:=res) <|
 mFin 6 h
end drossref03_Attr
namespace drossref03_Names
noncomputable def B:Code:=(Tryz.f38.body).getD .skip
def W:List Nat:=[0,2,3,7,26]
def res (r:Bool):D×List D:=(.lit (.bool r),[])
def C (x0:List ByteArray) (r:Bool):Prop:=Ret env 38 [.sl (x0.map eS)] (res r).1 (res r).2
def L1 (x0:List ByteArray) (z0:Int) (φ:Bool→Prop):Prop:=Pt env 38 W B [1,0,1,0] [(0,.sl (x0.map eS)),(3,.lit (.int .i64 z0))] (Lv env 38 Tryz.f38 1 res φ)
theorem L1_step (x0:List ByteArray) (z0:Int) (φ:Bool→Prop) (h :
 (if z0<(x0.length:Int) then
 ∃ a1,lget x0 z0=some a1 ∧
 ∃ r3:Bool,drossref03_Name.C a1 r3 ∧
 (if r3=true then
 0≤z0 ∧
 (0≤z0.toNat∧z0.toNat≤x0.length) ∧
 ∃ r6:Int,drossref03_Attr.C ((List.take (z0.toNat-0) x0)) a1 r6 ∧
 (if 0≤r6 then
 φ false
 else
 drossref03_Names.L1 x0 ((IntKind.wrap .i64 (z0+1))) φ)
 else
 φ false)
 else
 φ true)):L1 x0 z0 φ:=
 mIn <|
 mLen 4 eS x0 <|
 mAsk 0 h dT dF (fun h=>
 mIx 6 eS h fun a1 h2 h=>
 mCalB 1 h (fun _ h=>h) (fun _ h=>
 h.elim fun h4 h=>
 h.elim fun h5 h=>
 mVl 4 (val_slice_sl (t:=37) (x:=(.tmp 17)) (lo:=none) (hi:=(some (.tmp 18))) (lo':=none) (hi':=some (z0).toNat) (e:=eS) (l:=x0) (et:=9) (k:=1) (by kernel_rfl) (by kernel_rfl) optNat_none (optNat_some (i:=z0) (q:=.i64) (by kernel_rfl) h4) (by kernel_rfl) (by kernel_rfl) (fun _=>rfl) (by kernel_rfl) h5.1 h5.2) <|
 mIxf 2 eS h2 <|
 mCal 1 h (fun _ h=>h) fun r6 _ h=>
 mAsk 0 h dT dF (fun h=>
 mRet 6 h) fun h=>
 mFin 9 h) fun _ h=>
 mRet 17 h) fun h=>
 mRet 6 h
theorem enter (x0:List ByteArray) (φ:Bool→Prop) (h :
 drossref03_Names.L1 x0 0 φ):∃ r,φ r∧C x0 r:=
 mEnt (fd:=Tryz.f38) (body:=B) (V:=W) (res:=res) <|
 mFin 6 h
end drossref03_Names
namespace drossref03_Valid
noncomputable def B:Code:=(Tryz.f14.body).getD .skip
def W:List Nat:=[0,1,2,3,4,5,9,19,23,28,39,48,52]
def res (r:Int):D×List D:=(.lit (.int .i64 r),[])
def C (x0:api_Table) (r:Int):Prop:=Ret env 14 [.agg [.lit (.string x0.Name),.sl (x0.Attrs.map eS),.sl (x0.Rows.map enc_api_Row_2)]] (res r).1 (res r).2
def L1 (x0:api_Table) (z0 z1:Int) (φ:Int→Prop):Prop:=Pt env 14 W B [1,1,1,1,1,0,1,0] [(0,.agg [.lit (.string x0.Name),.sl (x0.Attrs.map eS),.sl (x0.Rows.map enc_api_Row_2)]),(1,.box [.lit (.string x0.Name),.sl (x0.Attrs.map eS),.sl (x0.Rows.map enc_api_Row_2)]),(3,.lit (.int .i64 z0)),(4,.lit (.int .i64 z1))] (Lv env 14 Tryz.f14 1 res φ)
theorem L1_step (x0:api_Table) (z0 z1:Int) (φ:Int→Prop) (h :
 (if z1<(x0.Rows.length:Int) then
 ∃ a3,lget x0.Rows z1=some a3 ∧
 (if a3.ID≤z0 then
 φ 1
 else
 (if (a3.Values.length:Int)=(x0.Attrs.length:Int) then
 ∃ r5:Bool,drossref01_Valids.C a3.Values r5 ∧
 (if r5=true then
 drossref03_Valid.L1 x0 a3.ID ((IntKind.wrap .i64 (z1+1))) φ
 else
 φ 1)
 else
 φ 6))
 else
 φ 0)):L1 x0 z0 z1 φ:=
 mIn <|
 mLen 5 enc_api_Row_2 x0.Rows <|
 mAsk 0 h dT dF (fun h=>
 mIx 7 enc_api_Row_2 h fun a3 h4 h=>
 mAsk 8 h dT dF (fun h=>
 mRet 5 h) fun h=>
 mLen 11 enc_api_Value a3.Values <|
 mLen 2 eS x0.Attrs <|
 mAskN 0 h bne_t bne_f (fun h=>
 mRet 5 h) fun h=>
 mCalB 6 h (fun _ h=>h) (fun _ h=>
 mFin 9 h) fun _ h=>
 mRet 6 h) fun h=>
 mRet 6 h
theorem enter (x0:api_Table) (φ:Int→Prop) (h :
 ∃ r1:Bool,drossref03_Name.C x0.Name r1 ∧
 (if r1=true then
 (if 16<(x0.Attrs.length:Int) then
 φ 3
 else
 (if 1000<(x0.Rows.length:Int) then
 φ 3
 else
 ∃ r2:Bool,drossref03_Names.C x0.Attrs r2 ∧
 (if r2=true then
 drossref03_Valid.L1 x0 0 0 φ
 else
 φ 1)))
 else
 φ 1)):∃ r,φ r∧C x0 r:=
 mEnt (fd:=Tryz.f14) (body:=B) (V:=W) (res:=res) <|
 mCalB 7 h (fun _ h=>h) (fun _ h=>
 mLen 7 eS x0.Attrs <|
 mAsk 0 h dT dF (fun h=>
 mRet 11 h) fun h=>
 mLen 3 enc_api_Row_2 x0.Rows <|
 mAsk 0 h dT dF (fun h=>
 mRet 6 h) fun h=>
 mCalB 7 h (fun _ h=>h) (fun _ h=>
 mFin 10 h) fun _ h=>
 mRet 6 h) fun _ h=>
 mRet 6 h
end drossref03_Valid
namespace attrset_Members
noncomputable def B:Code:=(Tryz.f51.body).getD .skip
def W:List Nat:=[0,2,3,5]
def res (r:List Int):D×List D:=(.own (r.map (eI .i64)),[])
def C (x0:Int) (r:List Int):Prop:=Ret env 51 [.lit (.int .u32 x0)] (res r).1 (res r).2
def L1 (x0:Int) (z0:List Int) (φ:List Int→Prop):Prop:=Pt env 51 W B [1,1,0,0] [(0,.lit (.int .u32 x0)),(3,.own (z0.map (eI .i64)))] (Lv env 51 Tryz.f51 1 res φ)
theorem L1_step (x0:Int) (z0:List Int) (φ:List Int→Prop) (h :
 (if x0=0 then
 φ z0
 else
 (0≤x0∧x0<4294967296) ∧
 (z0.length+1)*8≤140737488355328 ∧
 attrset_Members.L1 ((bAnd .u32 x0 (IntKind.wrap .u32 (x0-1)))) ((z0++[(tz32 x0)])) φ)):L1 x0 z0 φ:=
 mIn <|
 mAskN 3 h bne_t bne_f (fun h=>
 h.elim fun h1 h=>
 mCalP 6 (show Ret env 95 [.lit (.int .u32 x0)] (.lit (.int .i64 ((tz32 x0)))) [] from ret_zeros (by kernel_rfl) h1) <|
 mApp 1 (eI .i64) z0 ([(tz32 x0)]) h fun h=>
 mFin 9 h) fun h=>
 mRet 7 h
theorem enter (x0:Int) (φ:List Int→Prop) (h :
 attrset_Members.L1 x0 ([]) φ):∃ r,φ r∧C x0 r:=
 mEnt (fd:=Tryz.f51) (body:=B) (V:=W) (res:=res) <|
 mFin 6 h
end attrset_Members
namespace drossref01_sign
noncomputable def B:Code:=(Tryz.f132.body).getD .skip
def W:List Nat:=[0,1,4,7,10]
def res (r:Int):D×List D:=(.lit (.int .i64 r),[])
def C (x0 x1 r:Int):Prop:=Ret env 132 [.lit (.int .i64 x0),.lit (.int .i64 x1)] (res r).1 (res r).2
theorem enter (x0 x1:Int) (φ:Int→Prop) (h :
 (if x0<x1 then
 φ ((-1))
 else
 (if x1<x0 then
 φ 1
 else
 φ 0))):∃ r,φ r∧C x0 x1 r:=
 mEnt (fd:=Tryz.f132) (body:=B) (V:=W) (res:=res) <|
 mAsk 6 h dT dF (fun h=>
 mRet 5 h) fun h=>
 mAsk 6 h dT dF (fun h=>
 mRet 5 h) fun h=>
 mRet 6 h
end drossref01_sign
namespace drossref01_strings
noncomputable def B:Code:=(Tryz.f147.body).getD .skip
def W:List Nat:=[0,1,4,5,15,24]
def res (r:Int):D×List D:=(.lit (.int .i64 r),[])
def C (x0 x1:ByteArray) (r:Int):Prop:=Ret env 147 [.lit (.string x0),.lit (.string x1)] (res r).1 (res r).2
def L1 (x0 x1:ByteArray) (z0:Int) (φ:Int→Prop):Prop:=Pt env 147 W B [1,0,1,0] [(0,.lit (.string x0)),(1,.lit (.string x1)),(5,.lit (.int .i64 z0))] (Lv env 147 Tryz.f147 2 res φ)
def L2 (x0 x1:ByteArray) (φ:Int→Prop):Prop:=Pt env 147 W B [1,1,0] [(0,.lit (.string x0)),(1,.lit (.string x1))] (Lv env 147 Tryz.f147 2 res φ)
theorem L1_step (x0 x1:ByteArray) (z0:Int) (φ:Int→Prop) (h :
 (if z0<(bsize x0) then
 (if z0<(bsize x1) then
 ∃ b1,((0:Int)≤z0∧x0[(z0).toNat]? = some b1) ∧
 ∃ b4,((0:Int)≤z0∧x1[(z0).toNat]? = some b4) ∧
 (if (u8i b1)=(u8i b4) then
 drossref01_strings.L1 x0 x1 ((IntKind.wrap .i64 (z0+1))) φ
 else
 ∃ b7,((0:Int)≤z0∧x0[(z0).toNat]? = some b7) ∧
 ∃ b10,((0:Int)≤z0∧x1[(z0).toNat]? = some b10) ∧
 ∃ r13:Int,drossref01_sign.C ((IntKind.wrap .i64 (u8i b7))) ((IntKind.wrap .i64 (u8i b10))) r13 ∧
 φ r13)
 else
 drossref01_strings.L2 x0 x1 φ)
 else
 drossref01_strings.L2 x0 x1 φ)):L1 x0 x1 z0 φ:=
 mIn <|
 mAsk 5 h dT dF (fun h=>
 mAsk 4 h dT dF (fun h=>
 mSt 7 h fun b1 h=>
 mSt 2 h fun b4 h=>
 mAskN 0 h bne_t bne_f (fun h=>
 mSt 5 h fun b7 h=>
 mSt 3 h fun b10 h=>
 mCal 1 h (fun _ h=>h) fun r13 _ h=>
 mRet 2 h) fun h=>
 mFin 8 h) fun h=>
 mFin 4 h) fun h=>
 mFin 9 h
theorem L2_step (x0 x1:ByteArray) (φ:Int→Prop) (h :
 ∃ r14:Int,drossref01_sign.C ((bsize x0)) ((bsize x1)) r14 ∧
 φ r14):L2 x0 x1 φ:=
 mIn <|
 mCal 5 h (fun _ h=>h) fun r14 _ h=>
 mRet 2 h
theorem enter (x0 x1:ByteArray) (φ:Int→Prop) (h :
 drossref01_strings.L1 x0 x1 0 φ):∃ r,φ r∧C x0 x1 r:=
 mEnt (fd:=Tryz.f147) (body:=B) (V:=W) (res:=res) <|
 mFin 6 h
end drossref01_strings
namespace drossref01_Compare
noncomputable def B:Code:=(Tryz.f131.body).getD .skip
def W:List Nat:=[0,1,2,3,4,5,6,13,21]
def res (r:Int):D×List D:=(.lit (.int .i64 r),[])
def C (x0 x1:api_Value) (r:Int):Prop:=Ret env 131 [.agg [.lit (.int .i64 x0.Kind),.lit (.int .i64 x0.Num),.lit (.string x0.Str)],.agg [.lit (.int .i64 x1.Kind),.lit (.int .i64 x1.Num),.lit (.string x1.Str)]] (res r).1 (res r).2
theorem enter (x0 x1:api_Value) (φ:Int→Prop) (h :
 ∃ r1:Int,drossref01_sign.C x0.Kind x1.Kind r1 ∧
 (if r1=0 then
 ∃ r2:Int,drossref01_sign.C x0.Num x1.Num r2 ∧
 (if r2=0 then
 ∃ r3:Int,drossref01_strings.C x0.Str x1.Str r3 ∧
 φ r3
 else
 φ r2)
 else
 φ r1)):∃ r,φ r∧C x0 x1 r:=
 mEnt (fd:=Tryz.f131) (body:=B) (V:=W) (res:=res) <|
 mCal 10 h (fun _ h=>h) fun r1 _ h=>
 mAskN 4 h bne_t bne_f (fun h=>
 mRet 6 h) fun h=>
 mCal 8 h (fun _ h=>h) fun r2 _ h=>
 mAskN 4 h bne_t bne_f (fun h=>
 mRet 6 h) fun h=>
 mCal 8 h (fun _ h=>h) fun r3 _ h=>
 mRet 2 h
end drossref01_Compare
namespace drossref01_Lists
noncomputable def B:Code:=(Tryz.f105.body).getD .skip
def W:List Nat:=[0,1,4,5,6,16,29]
def res (r:Int):D×List D:=(.lit (.int .i64 r),[])
def C (x0 x1:List api_Value) (r:Int):Prop:=Ret env 105 [.sl (x0.map enc_api_Value),.sl (x1.map enc_api_Value)] (res r).1 (res r).2
def L1 (x0 x1:List api_Value) (z0:Int) (φ:Int→Prop):Prop:=Pt env 105 W B [1,0,1,0] [(0,.sl (x0.map enc_api_Value)),(1,.sl (x1.map enc_api_Value)),(5,.lit (.int .i64 z0))] (Lv env 105 Tryz.f105 2 res φ)
def L2 (x0 x1:List api_Value) (φ:Int→Prop):Prop:=Pt env 105 W B [1,1,0] [(0,.sl (x0.map enc_api_Value)),(1,.sl (x1.map enc_api_Value))] (Lv env 105 Tryz.f105 2 res φ)
theorem L1_step (x0 x1:List api_Value) (z0:Int) (φ:Int→Prop) (h :
 (if z0<(x0.length:Int) then
 (if z0<(x1.length:Int) then
 ∃ a1,lget x0 z0=some a1 ∧
 ∃ a3,lget x1 z0=some a3 ∧
 ∃ r5:Int,drossref01_Compare.C a1 a3 r5 ∧
 (if r5=0 then
 drossref01_Lists.L1 x0 x1 ((IntKind.wrap .i64 (z0+1))) φ
 else
 φ r5)
 else
 drossref01_Lists.L2 x0 x1 φ)
 else
 drossref01_Lists.L2 x0 x1 φ)):L1 x0 x1 z0 φ:=
 mIn <|
 mLen 4 enc_api_Value x0 <|
 mAsk 0 h dT dF (fun h=>
 mLen 3 enc_api_Value x1 <|
 mAsk 0 h dT dF (fun h=>
 mIx 7 enc_api_Value h fun a1 h2 h=>
 mIx 3 enc_api_Value h fun a3 h4 h=>
 mCal 1 h (fun _ h=>h) fun r5 _ h=>
 mAskN 4 h bne_t bne_f (fun h=>
 mRet 6 h) fun h=>
 mFin 8 h) fun h=>
 mFin 4 h) fun h=>
 mFin 9 h
theorem L2_step (x0 x1:List api_Value) (φ:Int→Prop) (h :
 ∃ r6:Int,drossref01_sign.C ((x0.length:Int)) ((x1.length:Int)) r6 ∧
 φ r6):L2 x0 x1 φ:=
 mIn <|
 mLen 2 enc_api_Value x0 <|
 mLen 1 enc_api_Value x1 <|
 mCal 0 h (fun _ h=>h) fun r6 _ h=>
 mRet 2 h
theorem enter (x0 x1:List api_Value) (φ:Int→Prop) (h :
 drossref01_Lists.L1 x0 x1 0 φ):∃ r,φ r∧C x0 x1 r:=
 mEnt (fd:=Tryz.f105) (body:=B) (V:=W) (res:=res) <|
 mFin 6 h
end drossref01_Lists
namespace drossref01_Same
noncomputable def B:Code:=(Tryz.f82.body).getD .skip
def W:List Nat:=[0,1,4]
def res (r:Bool):D×List D:=(.lit (.bool r),[])
def C (x0 x1:List api_Value) (r:Bool):Prop:=Ret env 82 [.sl (x0.map enc_api_Value),.sl (x1.map enc_api_Value)] (res r).1 (res r).2
theorem enter (x0 x1:List api_Value) (φ:Bool→Prop) (h :
 ∃ r1:Int,drossref01_Lists.C x0 x1 r1 ∧
 φ ((r1 == 0))):∃ r,φ r∧C x0 x1 r:=
 mEnt (fd:=Tryz.f82) (body:=B) (V:=W) (res:=res) <|
 mCal 6 h (fun _ h=>h) fun r1 _ h=>
 mRet 3 h
end drossref01_Same
namespace drossref03_Values
noncomputable def B:Code:=(Tryz.f83.body).getD .skip
def W:List Nat:=[0,1,2,4,5,6,11,16]
def res (r:List api_Value):D×List D:=(.own (r.map enc_api_Value),[])
def C (x0:api_Row) (x1:Int) (r:List api_Value):Prop:=Ret env 83 [.agg [.lit (.int .i64 x0.ID),.sl (x0.Values.map enc_api_Value)],.lit (.int .u32 x1)] (res r).1 (res r).2
def L1 (x0:api_Row) (x1:Int) (z0:List api_Value) (z1:Int) (φ:List api_Value→Prop):Prop:=Pt env 83 W B [1,1,0,1,0] [(0,.agg [.lit (.int .i64 x0.ID),.sl (x0.Values.map enc_api_Value)]),(1,.lit (.int .u32 x1)),(2,.box [.lit (.int .i64 x0.ID),.sl (x0.Values.map enc_api_Value)]),(5,.own (z0.map enc_api_Value)),(6,.lit (.int .i64 z1))] (Lv env 83 Tryz.f83 2 res φ)
def L2 (x0:api_Row) (x1:Int) (z0:List api_Value) (z1:Int) (φ:List api_Value→Prop):Prop:=Pt env 83 W B [1,1,0,1,0,0,1,1] [(0,.agg [.lit (.int .i64 x0.ID),.sl (x0.Values.map enc_api_Value)]),(1,.lit (.int .u32 x1)),(2,.box [.lit (.int .i64 x0.ID),.sl (x0.Values.map enc_api_Value)]),(5,.own (z0.map enc_api_Value)),(6,.lit (.int .i64 z1))] (Lv env 83 Tryz.f83 2 res φ)
theorem L1_step (x0:api_Row) (x1:Int) (z0:List api_Value) (z1:Int) (φ:List api_Value→Prop) (h :
 (if z1<(x0.Values.length:Int) then
 ∃ r1:Bool,drossref02_Has.C x1 z1 r1 ∧
 (if r1=true then
 ∃ a2,lget x0.Values z1=some a2 ∧
 (z0.length+1)*32≤140737488355328 ∧
 drossref03_Values.L2 x0 x1 ((z0++[a2])) z1 φ
 else
 drossref03_Values.L2 x0 x1 z0 z1 φ)
 else
 φ z0)):L1 x0 x1 z0 z1 φ:=
 mIn <|
 mLen 5 enc_api_Value x0.Values <|
 mAsk 0 h dT dF (fun h=>
 mCalB 6 h (fun _ h=>h) (fun _ h=>
 mIx 7 enc_api_Value h fun a2 h3 h=>
 mApp 2 enc_api_Value z0 ([a2]) h fun h=>
 mFin 2 h) fun _ h=>
 mFin 3 h) fun h=>
 mRet 7 h
theorem L2_step (x0:api_Row) (x1:Int) (z0:List api_Value) (z1:Int) (φ:List api_Value→Prop) (h :
 drossref03_Values.L1 x0 x1 z0 ((IntKind.wrap .i64 (z1+1))) φ):L2 x0 x1 z0 z1 φ:=
 mIn <|
 mFin 5 h
theorem enter (x0:api_Row) (x1:Int) (φ:List api_Value→Prop) (h :
 drossref03_Values.L1 x0 x1 ([]) 0 φ):∃ r,φ r∧C x0 x1 r:=
 mEnt (fd:=Tryz.f83) (body:=B) (V:=W) (res:=res) <|
 mFin 10 h
end drossref03_Values
namespace drossref03_Agree
noncomputable def B:Code:=(Tryz.f41.body).getD .skip
def W:List Nat:=[0,1,2,3,4,6]
def res (r:Bool):D×List D:=(.lit (.bool r),[])
def C (x0 x1:api_Row) (x2:Int) (r:Bool):Prop:=Ret env 41 [.agg [.lit (.int .i64 x0.ID),.sl (x0.Values.map enc_api_Value)],.agg [.lit (.int .i64 x1.ID),.sl (x1.Values.map enc_api_Value)],.lit (.int .u32 x2)] (res r).1 (res r).2
theorem enter (x0 x1:api_Row) (x2:Int) (φ:Bool→Prop) (h :
 ∃ r1:List api_Value,drossref03_Values.C x0 x2 r1 ∧
 ∃ r2:List api_Value,drossref03_Values.C x1 x2 r2 ∧
 ∃ r3:Bool,drossref01_Same.C r1 r2 r3 ∧
 φ r3):∃ r,φ r∧C x0 x1 x2 r:=
 mEnt (fd:=Tryz.f41) (body:=B) (V:=W) (res:=res) <|
 mLo 8 h (fun _ h=>h) (hf:=(fun _=>loF_flat (flat_ow (e:=enc_api_Value) (fun _=>rfl)))) fun r1 _ h=>
 mCal 2 h (fun _ h=>h) (hf:=(fun _=>clF_flat (flat_ow (e:=enc_api_Value) (fun _=>rfl)) rfl)) fun r2 _ h=>
 mCal 0 h (fun _ h=>h) (hr:=by exact (pr_snap (snap_ow (s:=9) (ps:=[]) (l:=r1) (e:=enc_api_Value) (e':=enc_api_Value) (fun _=>rfl) (by kernel_rfl)) (pr_snap (snap_ow (s:=12) (ps:=[]) (l:=r2) (e:=enc_api_Value) (e':=enc_api_Value) (fun _=>rfl) (by kernel_rfl)) pr_nil))) fun r3 _ h=>
 mRet 2 h
end drossref03_Agree
namespace drossref09_Implies
end drossref09_Implies
namespace closure_Implies
end closure_Implies
namespace drossref03_EqualRows
end drossref03_EqualRows
namespace drossref03_Strings
end drossref03_Strings
namespace drossref03_Equal
def res (r:Bool):D×List D:=(.lit (.bool r),[])
def C (x0 x1:api_Table) (r:Bool):Prop:=Ret env 25 [.agg [.lit (.string x0.Name),.sl (x0.Attrs.map eS),.sl (x0.Rows.map enc_api_Row_2)],.agg [.lit (.string x1.Name),.sl (x1.Attrs.map eS),.sl (x1.Rows.map enc_api_Row_2)]] (res r).1 (res r).2
end drossref03_Equal
namespace drossref08_Satisfies
noncomputable def B:Code:=(Tryz.f16.body).getD .skip
def W:List Nat:=[0,1,2,3,4,5,6,11,16,47]
def res (r:Bool):D×List D:=(.lit (.bool r),[])
def C (x0:api_Table) (x1:api_FD) (r:Bool):Prop:=Ret env 16 [.agg [.lit (.string x0.Name),.sl (x0.Attrs.map eS),.sl (x0.Rows.map enc_api_Row_2)],.agg [.lit (.int .u32 x1.Lhs),.lit (.int .u32 x1.Rhs)]] (res r).1 (res r).2
def L1 (x0:api_Table) (x1:api_FD) (z0:Int) (φ:Bool→Prop):Prop:=Pt env 16 W B [1,0,1,0] [(0,.agg [.lit (.string x0.Name),.sl (x0.Attrs.map eS),.sl (x0.Rows.map enc_api_Row_2)]),(1,.agg [.lit (.int .u32 x1.Lhs),.lit (.int .u32 x1.Rhs)]),(2,.box [.lit (.string x0.Name),.sl (x0.Attrs.map eS),.sl (x0.Rows.map enc_api_Row_2)]),(3,.box [.lit (.int .u32 x1.Lhs),.lit (.int .u32 x1.Rhs)]),(5,.lit (.int .i64 z0))] (Lv env 16 Tryz.f16 2 res φ)
def L2 (x0:api_Table) (x1:api_FD) (z0 z1:Int) (φ:Bool→Prop):Prop:=Pt env 16 W B [1,0,1,0,0,1,0,0,1,0] [(0,.agg [.lit (.string x0.Name),.sl (x0.Attrs.map eS),.sl (x0.Rows.map enc_api_Row_2)]),(1,.agg [.lit (.int .u32 x1.Lhs),.lit (.int .u32 x1.Rhs)]),(2,.box [.lit (.string x0.Name),.sl (x0.Attrs.map eS),.sl (x0.Rows.map enc_api_Row_2)]),(3,.box [.lit (.int .u32 x1.Lhs),.lit (.int .u32 x1.Rhs)]),(5,.lit (.int .i64 z0)),(6,.lit (.int .i64 z1))] (Lv env 16 Tryz.f16 2 res φ)
def L3 (x0:api_Table) (x1:api_FD) (z0 z1:Int) (φ:Bool→Prop):Prop:=Pt env 16 W B [1,0,1,0,0,1,0,0,1,0,0,1,1] [(0,.agg [.lit (.string x0.Name),.sl (x0.Attrs.map eS),.sl (x0.Rows.map enc_api_Row_2)]),(1,.agg [.lit (.int .u32 x1.Lhs),.lit (.int .u32 x1.Rhs)]),(2,.box [.lit (.string x0.Name),.sl (x0.Attrs.map eS),.sl (x0.Rows.map enc_api_Row_2)]),(3,.box [.lit (.int .u32 x1.Lhs),.lit (.int .u32 x1.Rhs)]),(5,.lit (.int .i64 z0)),(6,.lit (.int .i64 z1))] (Lv env 16 Tryz.f16 2 res φ)
theorem L1_step (x0:api_Table) (x1:api_FD) (z0:Int) (φ:Bool→Prop) (h :
 (if z0<(x0.Rows.length:Int) then
 drossref08_Satisfies.L2 x0 x1 z0 0 φ
 else
 φ true)):L1 x0 x1 z0 φ:=
 mIn <|
 mLen 5 enc_api_Row_2 x0.Rows <|
 mAsk 0 h dT dF (fun h=>
 mFin 6 h) fun h=>
 mRet 6 h
theorem L2_step (x0:api_Table) (x1:api_FD) (z0 z1:Int) (φ:Bool→Prop) (h :
 (if z1<z0 then
 ∃ a1,lget x0.Rows z0=some a1 ∧
 ∃ a3,lget x0.Rows z1=some a3 ∧
 ∃ r5:Bool,drossref03_Agree.C a1 a3 x1.Lhs r5 ∧
 (if r5=true then
 ∃ r6:Bool,drossref03_Agree.C a1 a3 x1.Rhs r6 ∧
 (if r6=true then
 drossref08_Satisfies.L3 x0 x1 z0 z1 φ
 else
 φ false)
 else
 drossref08_Satisfies.L3 x0 x1 z0 z1 φ)
 else
 drossref08_Satisfies.L1 x0 x1 ((IntKind.wrap .i64 (z0+1))) φ)):L2 x0 x1 z0 z1 φ:=
 mIn <|
 mAsk 4 h dT dF (fun h=>
 mIx 7 enc_api_Row_2 h fun a1 h2 h=>
 mIx 4 enc_api_Row_2 h fun a3 h4 h=>
 mCalB 3 h (fun _ h=>h) (fun _ h=>
 mIxf 4 enc_api_Row_2 h2 <|
 mIxf 4 enc_api_Row_2 h4 <|
 mCalB 3 h (fun _ h=>h) (fun _ h=>
 mFin 5 h) fun _ h=>
 mRet 7 h) fun _ h=>
 mFin 19 h) fun h=>
 mFin 8 h
theorem L3_step (x0:api_Table) (x1:api_FD) (z0 z1:Int) (φ:Bool→Prop) (h :
 drossref08_Satisfies.L2 x0 x1 z0 ((IntKind.wrap .i64 (z1+1))) φ):L3 x0 x1 z0 z1 φ:=
 mIn <|
 mFin 5 h
theorem enter (x0:api_Table) (x1:api_FD) (φ:Bool→Prop) (h :
 drossref08_Satisfies.L1 x0 x1 0 φ):∃ r,φ r∧C x0 x1 r:=
 mEnt (fd:=Tryz.f16) (body:=B) (V:=W) (res:=res) <|
 mFin 8 h
end drossref08_Satisfies
namespace refute_build
noncomputable def B:Code:=(Tryz.f33.body).getD .skip
def W:List Nat:=[0,1,4,5,6,7,8,9,10,12,13,14,26,27,28,29,36,37,38]
def res (r:api_Table):D×List D:=(.agg [.lit (.string r.Name),.own (r.Attrs.map eS),.own (r.Rows.map enc_api_Row)],[])
def C (x0:Int) (x1:List Int) (r:api_Table):Prop:=Ret env 33 [.lit (.int .i64 x0),.sl (x1.map (eI .u32))] (res r).1 (res r).2
def L1 (x0:Int) (x1:List Int) (z0:List ByteArray) (z1:Int) (φ:api_Table→Prop):Prop:=Pt env 33 W B [1,1,0,1,0] [(0,.lit (.int .i64 x0)),(1,.sl (x1.map (eI .u32))),(4,.box [.lit (.string ((⟨#[]⟩:ByteArray))),.own [],.own []]),(5,.box [.lit (.string ((⟨#[116]⟩:ByteArray))),.own (z0.map eS),.own []]),(12,.lit (.int .i64 x0)),(13,.lit (.int .i64 z1))] (Lv env 33 Tryz.f33 2 res φ)
def L2 (x0:Int) (x1:List Int) (z0:List ByteArray) (z1:List api_Row) (z2:Int) (φ:api_Table→Prop):Prop:=Pt env 33 W B [1,1,1,0,1,0] [(0,.lit (.int .i64 x0)),(1,.sl (x1.map (eI .u32))),(4,.box [.lit (.string ((⟨#[]⟩:ByteArray))),.own [],.own []]),(5,.box [.lit (.string ((⟨#[116]⟩:ByteArray))),.own (z0.map eS),.own (z1.map enc_api_Row)]),(26,.sl (x1.map (eI .u32))),(27,.lit (.int .i64 ((x1.length:Int)))),(28,.lit (.int .i64 z2))] (Lv env 33 Tryz.f33 2 res φ)
def L3 (x0:Int) (x1:List Int) (z0:List ByteArray) (z1:List api_Row) (a2 z2:Int) (z3:List api_Value) (z4 z5:Int) (φ:api_Table→Prop):Prop:=Pt env 33 W B [1,1,1,0,1,0,0,1,1,0,0,1,1,0,1,0] [(0,.lit (.int .i64 x0)),(1,.sl (x1.map (eI .u32))),(4,.box [.lit (.string ((⟨#[]⟩:ByteArray))),.own [],.own []]),(5,.box [.lit (.string ((⟨#[116]⟩:ByteArray))),.own (z0.map eS),.own (z1.map enc_api_Row)]),(8,.lit (.int .u32 a2)),(9,.box [.lit (.int .i64 z2),.own (z3.map enc_api_Value)]),(26,.sl (x1.map (eI .u32))),(27,.lit (.int .i64 ((x1.length:Int)))),(28,.lit (.int .i64 z4)),(36,.lit (.int .i64 x0)),(37,.lit (.int .i64 z5))] (Lv env 33 Tryz.f33 2 res φ)
theorem L1_step (x0:Int) (x1:List Int) (z0:List ByteArray) (z1:Int) (φ:api_Table→Prop) (h :
 (if z1<x0 then
 (z0.length+1)*16≤140737488355328 ∧
 refute_build.L1 x0 x1 ((z0++[(Utf8.encode (IntKind.wrap .i32 (IntKind.wrap .i64 (97+z1))))])) ((IntKind.wrap .i64 (z1+1))) φ
 else
 refute_build.L2 x0 x1 z0 ([]) 0 φ)):L1 x0 x1 z0 z1 φ:=
 mIn <|
 mAsk 2 h dT dF (fun h=>
 mApp 15 eS z0 ([(Utf8.encode (IntKind.wrap .i32 (IntKind.wrap .i64 (97+z1))))]) h fun h=>
 mFin 7 h) fun h=>
 mLen 5 (eI .u32) x1 <|
 mFin 2 h
theorem L2_step (x0:Int) (x1:List Int) (z0:List ByteArray) (z1:List api_Row) (z2:Int) (φ:api_Table→Prop) (h :
 (if z2<(x1.length:Int) then
 ∃ a2,lget x1 z2=some a2 ∧
 refute_build.L3 x0 x1 z0 z1 a2 ((IntKind.wrap .i64 (z2+1))) ([]) z2 0 φ
 else
 φ ((⟨(⟨#[116]⟩:ByteArray),z0,z1⟩:api_Table)))):L2 x0 x1 z0 z1 z2 φ:=
 mIn <|
 mAsk 2 h dT dF (fun h=>
 mIx 5 (eI .u32) h fun a2 h3 h=>
 mFin 15 h) fun h=>
 mRet 7 h
theorem L3_step (x0:Int) (x1:List Int) (z0:List ByteArray) (z1:List api_Row) (a2 z2:Int) (z3:List api_Value) (z4 z5:Int) (φ:api_Table→Prop) (h :
 (if z5<x0 then
 0≤z5 ∧
 (z3.length+1)*32≤140737488355328 ∧
 refute_build.L3 x0 x1 z0 z1 a2 z2 ((z3++[(⟨1,(IntKind.wrap .i64 (bAnd .u32 (shrw .u32 a2 z5) 1)),(⟨#[]⟩:ByteArray)⟩:api_Value)])) z4 ((IntKind.wrap .i64 (z5+1))) φ
 else
 (z1.length+1)*32≤140737488355328 ∧
 refute_build.L2 x0 x1 z0 ((z1++[(⟨z2,z3⟩:api_Row)])) ((IntKind.wrap .i64 (z4+1))) φ)):L3 x0 x1 z0 z1 a2 z2 z3 z4 z5 φ:=
 mIn <|
 mAsk 2 h dT dF (fun h=>
 h.elim fun h4 h=>
 mBi 12 (bin_shr (t:=34) (q:=.u32) (q':=.i64) (i1:=a2) h4) <|
 mApp 4 enc_api_Value z3 ([(⟨1,(IntKind.wrap .i64 (bAnd .u32 (shrw .u32 a2 z5) 1)),(⟨#[]⟩:ByteArray)⟩:api_Value)]) h fun h=>
 mFin 7 h) fun h=>
 mApp 8 enc_api_Row z1 ([(⟨z2,z3⟩:api_Row)]) h fun h=>
 mFin 7 h
theorem enter (x0:Int) (x1:List Int) (φ:api_Table→Prop) (h :
 refute_build.L1 x0 x1 ([]) 0 φ):∃ r,φ r∧C x0 x1 r:=
 mEnt (fd:=Tryz.f33) (body:=B) (V:=W) (res:=res) <|
 mFin 12 h
end refute_build
namespace refute_within
noncomputable def B:Code:=(Tryz.f61.body).getD .skip
def W:List Nat:=[0,1,4]
def res (r:Bool):D×List D:=(.lit (.bool r),[])
def C (x0 x1:Int) (r:Bool):Prop:=Ret env 61 [.lit (.int .i64 x0),.lit (.int .u32 x1)] (res r).1 (res r).2
theorem enter (x0 x1:Int) (φ:Bool→Prop) (h :
 0≤x0 ∧
 φ (((shrw .u64 (IntKind.wrap .u64 x1) x0) == 0))):∃ r,φ r∧C x0 x1 r:=
 mEnt (fd:=Tryz.f61) (body:=B) (V:=W) (res:=res) <|
 h.elim fun h1 h=>
 mBi 7 (bin_shr (t:=143) (q:=.u64) (q':=.i64) (i1:=(IntKind.wrap .u64 x1)) h1) <|
 mRet 3 h
end refute_within
namespace refute_FD
def res (r:api_Table×Int):D×List D:=(.tup [.agg [.lit (.string r.1.Name),.own (r.1.Attrs.map eS),.own (r.1.Rows.map enc_api_Row)],.lit (.int .i64 r.2)],[])
def C (x0:Int) (x1:List api_FD) (x2:api_FD) (r:api_Table×Int):Prop:=Ret env 28 [.lit (.int .i64 x0),.sl (x1.map enc_api_FD),.agg [.lit (.int .u32 x2.Lhs),.lit (.int .u32 x2.Rhs)]] (res r).1 (res r).2
end refute_FD
namespace drossref20_number
end drossref20_number
namespace drossref20_within
end drossref20_within
namespace drossref20_FD
def res (r:api_Table×Int):D×List D:=(.tup [.agg [.lit (.string r.1.Name),.own (r.1.Attrs.map eS),.own (r.1.Rows.map enc_api_Row)],.lit (.int .i64 r.2)],[])
def C (x0:Int) (x1:List api_FD) (x2:api_FD) (r:api_Table×Int):Prop:=Ret env 29 [.lit (.int .i64 x0),.sl (x1.map enc_api_FD),.agg [.lit (.int .u32 x2.Lhs),.lit (.int .u32 x2.Rhs)]] (res r).1 (res r).2
end drossref20_FD
namespace drossref13_mixed
noncomputable def B:Code:=(Tryz.f81.body).getD .skip
def W:List Nat:=[0,1,2,3,4,5,6,8,9,14,39]
def res (r:Bool):D×List D:=(.lit (.bool r),[])
def C (x0:api_Table) (x1 x2:api_Row) (x3:Int) (r:Bool):Prop:=Ret env 81 [.agg [.lit (.string x0.Name),.sl (x0.Attrs.map eS),.sl (x0.Rows.map enc_api_Row_2)],.agg [.lit (.int .i64 x1.ID),.sl (x1.Values.map enc_api_Value)],.agg [.lit (.int .i64 x2.ID),.sl (x2.Values.map enc_api_Value)],.lit (.int .u32 x3)] (res r).1 (res r).2
def L1 (x0:api_Table) (x1 x2:api_Row) (x3 z0:Int) (φ:Bool→Prop):Prop:=Pt env 81 W B [1,0,1,0] [(0,.agg [.lit (.string x0.Name),.sl (x0.Attrs.map eS),.sl (x0.Rows.map enc_api_Row_2)]),(1,.agg [.lit (.int .i64 x1.ID),.sl (x1.Values.map enc_api_Value)]),(2,.agg [.lit (.int .i64 x2.ID),.sl (x2.Values.map enc_api_Value)]),(3,.lit (.int .u32 x3)),(4,.box [.lit (.string x0.Name),.sl (x0.Attrs.map eS),.sl (x0.Rows.map enc_api_Row_2)]),(5,.box [.lit (.int .i64 x1.ID),.sl (x1.Values.map enc_api_Value)]),(6,.box [.lit (.int .i64 x2.ID),.sl (x2.Values.map enc_api_Value)]),(9,.lit (.int .i64 z0))] (Lv env 81 Tryz.f81 4 res φ)
def L2 (x0:api_Table) (x1 x2:api_Row) (x3 z0:Int) (φ:Bool→Prop):Prop:=Pt env 81 W B [1,0,1,0,0,1,1] [(0,.agg [.lit (.string x0.Name),.sl (x0.Attrs.map eS),.sl (x0.Rows.map enc_api_Row_2)]),(1,.agg [.lit (.int .i64 x1.ID),.sl (x1.Values.map enc_api_Value)]),(2,.agg [.lit (.int .i64 x2.ID),.sl (x2.Values.map enc_api_Value)]),(3,.lit (.int .u32 x3)),(4,.box [.lit (.string x0.Name),.sl (x0.Attrs.map eS),.sl (x0.Rows.map enc_api_Row_2)]),(5,.box [.lit (.int .i64 x1.ID),.sl (x1.Values.map enc_api_Value)]),(6,.box [.lit (.int .i64 x2.ID),.sl (x2.Values.map enc_api_Value)]),(9,.lit (.int .i64 z0))] (Lv env 81 Tryz.f81 4 res φ)
theorem L1_step (x0:api_Table) (x1 x2:api_Row) (x3 z0:Int) (φ:Bool→Prop) (h :
 (if z0<(x0.Rows.length:Int) then
 ∃ a1,lget x0.Rows z0=some a1 ∧
 ∃ r3:Bool,drossref03_Agree.C a1 x1 x3 r3 ∧
 (if r3=true then
 ∃ r4:Int,drossref02_Full.C ((x0.Attrs.length:Int)) r4 ∧
 ∃ r5:Bool,drossref03_Agree.C a1 x2 ((bAndNot .u32 r4 x3)) r5 ∧
 (if r5=true then
 φ true
 else
 drossref13_mixed.L2 x0 x1 x2 x3 z0 φ)
 else
 drossref13_mixed.L2 x0 x1 x2 x3 z0 φ)
 else
 φ false)):L1 x0 x1 x2 x3 z0 φ:=
 mIn <|
 mLen 5 enc_api_Row_2 x0.Rows <|
 mAsk 0 h dT dF (fun h=>
 mIx 7 enc_api_Row_2 h fun a1 h2 h=>
 mCalB 3 h (fun _ h=>h) (fun _ h=>
 mIxf 4 enc_api_Row_2 h2 <|
 mLen 4 eS x0.Attrs <|
 mLo 0 h (fun _ h=>h) fun r4 _ h=>
 mCalB (A:=fun _=>φ true) 2 h (fun _ h=>h) (fun _ h=>
 mRet 6 h) fun _ h=>
 mFin 4 h) fun _ h=>
 mFin 18 h) fun h=>
 mRet 6 h
theorem L2_step (x0:api_Table) (x1 x2:api_Row) (x3 z0:Int) (φ:Bool→Prop) (h :
 drossref13_mixed.L1 x0 x1 x2 x3 ((IntKind.wrap .i64 (z0+1))) φ):L2 x0 x1 x2 x3 z0 φ:=
 mIn <|
 mFin 5 h
theorem enter (x0:api_Table) (x1 x2:api_Row) (x3:Int) (φ:Bool→Prop) (h :
 drossref13_mixed.L1 x0 x1 x2 x3 0 φ):∃ r,φ r∧C x0 x1 x2 x3 r:=
 mEnt (fd:=Tryz.f81) (body:=B) (V:=W) (res:=res) <|
 mFin 9 h
end drossref13_mixed
namespace drossref13_within
noncomputable def B:Code:=(Tryz.f80.body).getD .skip
def W:List Nat:=[0,1,4]
def res (r:Bool):D×List D:=(.lit (.bool r),[])
def C (x0 x1:Int) (r:Bool):Prop:=Ret env 80 [.lit (.int .i64 x0),.lit (.int .u32 x1)] (res r).1 (res r).2
theorem enter (x0 x1:Int) (φ:Bool→Prop) (h :
 ∃ r1:Int,drossref02_Full.C x0 r1 ∧
 ∃ r2:Bool,drossref02_Sub.C x1 r1 r2 ∧
 φ r2):∃ r,φ r∧C x0 x1 r:=
 mEnt (fd:=Tryz.f80) (body:=B) (V:=W) (res:=res) <|
 mCal 6 h (fun _ h=>h) fun r1 _ h=>
 mCal 0 h (fun _ h=>h) fun r2 _ h=>
 mRet 2 h
end drossref13_within
namespace drossref13_Holds
noncomputable def B:Code:=(Tryz.f40.body).getD .skip
def W:List Nat:=[0,1,2,3,4,5,6,7,8,9,10,14,26,36,43,74]
def res (r:Bool×Int):D×List D:=(.tup [.lit (.bool r.1),.lit (.int .i64 r.2)],[])
def C (x0:api_Table) (x1:api_MVD) (r:Bool×Int):Prop:=Ret env 40 [.agg [.lit (.string x0.Name),.sl (x0.Attrs.map eS),.sl (x0.Rows.map enc_api_Row_2)],.agg [.lit (.int .u32 x1.Lhs),.lit (.int .u32 x1.Rhs)]] (res r).1 (res r).2
def L1 (x0:api_Table) (x1:api_MVD) (z0:Int) (φ:Bool×Int→Prop):Prop:=Pt env 40 W B [1,1,1,1,1,0,1,0] [(0,.agg [.lit (.string x0.Name),.sl (x0.Attrs.map eS),.sl (x0.Rows.map enc_api_Row_2)]),(1,.agg [.lit (.int .u32 x1.Lhs),.lit (.int .u32 x1.Rhs)]),(2,.box [.lit (.string x0.Name),.sl (x0.Attrs.map eS),.sl (x0.Rows.map enc_api_Row_2)]),(3,.box [.lit (.int .u32 x1.Lhs),.lit (.int .u32 x1.Rhs)]),(8,.lit (.int .u32 ((bOr .u32 x1.Lhs x1.Rhs)))),(9,.lit (.int .i64 z0))] (Lv env 40 Tryz.f40 2 res φ)
def L2 (x0:api_Table) (x1:api_MVD) (z0 z1:Int) (φ:Bool×Int→Prop):Prop:=Pt env 40 W B [1,1,1,1,1,0,1,0,0,1,0,0,1,0] [(0,.agg [.lit (.string x0.Name),.sl (x0.Attrs.map eS),.sl (x0.Rows.map enc_api_Row_2)]),(1,.agg [.lit (.int .u32 x1.Lhs),.lit (.int .u32 x1.Rhs)]),(2,.box [.lit (.string x0.Name),.sl (x0.Attrs.map eS),.sl (x0.Rows.map enc_api_Row_2)]),(3,.box [.lit (.int .u32 x1.Lhs),.lit (.int .u32 x1.Rhs)]),(8,.lit (.int .u32 ((bOr .u32 x1.Lhs x1.Rhs)))),(9,.lit (.int .i64 z0)),(10,.lit (.int .i64 z1))] (Lv env 40 Tryz.f40 2 res φ)
def L3 (x0:api_Table) (x1:api_MVD) (z0 z1:Int) (φ:Bool×Int→Prop):Prop:=Pt env 40 W B [1,1,1,1,1,0,1,0,0,1,0,0,1,0,0,1,1] [(0,.agg [.lit (.string x0.Name),.sl (x0.Attrs.map eS),.sl (x0.Rows.map enc_api_Row_2)]),(1,.agg [.lit (.int .u32 x1.Lhs),.lit (.int .u32 x1.Rhs)]),(2,.box [.lit (.string x0.Name),.sl (x0.Attrs.map eS),.sl (x0.Rows.map enc_api_Row_2)]),(3,.box [.lit (.int .u32 x1.Lhs),.lit (.int .u32 x1.Rhs)]),(8,.lit (.int .u32 ((bOr .u32 x1.Lhs x1.Rhs)))),(9,.lit (.int .i64 z0)),(10,.lit (.int .i64 z1))] (Lv env 40 Tryz.f40 2 res φ)
theorem L1_step (x0:api_Table) (x1:api_MVD) (z0:Int) (φ:Bool×Int→Prop) (h :
 (if z0<(x0.Rows.length:Int) then
 drossref13_Holds.L2 x0 x1 z0 0 φ
 else
 φ ((true,0)))):L1 x0 x1 z0 φ:=
 mIn <|
 mLen 5 enc_api_Row_2 x0.Rows <|
 mAsk 0 h dT dF (fun h=>
 mFin 6 h) fun h=>
 mRet 7 h
theorem L2_step (x0:api_Table) (x1:api_MVD) (z0 z1:Int) (φ:Bool×Int→Prop) (h :
 (if z1<(x0.Rows.length:Int) then
 ∃ a3,lget x0.Rows z0=some a3 ∧
 ∃ a5,lget x0.Rows z1=some a5 ∧
 ∃ r7:Bool,drossref03_Agree.C a3 a5 x1.Lhs r7 ∧
 (if r7=true then
 ∃ r8:Bool,drossref13_mixed.C x0 a3 a5 ((bOr .u32 x1.Lhs x1.Rhs)) r8 ∧
 (if r8=true then
 drossref13_Holds.L3 x0 x1 z0 z1 φ
 else
 φ ((false,0)))
 else
 drossref13_Holds.L3 x0 x1 z0 z1 φ)
 else
 drossref13_Holds.L1 x0 x1 ((IntKind.wrap .i64 (z0+1))) φ)):L2 x0 x1 z0 z1 φ:=
 mIn <|
 mLen 5 enc_api_Row_2 x0.Rows <|
 mAsk 0 h dT dF (fun h=>
 mIx 7 enc_api_Row_2 h fun a3 h4 h=>
 mIx 4 enc_api_Row_2 h fun a5 h6 h=>
 mCalB 3 h (fun _ h=>h) (fun _ h=>
 mIxf 5 enc_api_Row_2 h4 <|
 mIxf 4 enc_api_Row_2 h6 <|
 mCalB 2 h (fun _ h=>h) (fun _ h=>
 mFin 5 h) fun _ h=>
 mRet 8 h) fun _ h=>
 mFin 19 h) fun h=>
 mFin 8 h
theorem L3_step (x0:api_Table) (x1:api_MVD) (z0 z1:Int) (φ:Bool×Int→Prop) (h :
 drossref13_Holds.L2 x0 x1 z0 ((IntKind.wrap .i64 (z1+1))) φ):L3 x0 x1 z0 z1 φ:=
 mIn <|
 mFin 5 h
theorem enter (x0:api_Table) (x1:api_MVD) (φ:Bool×Int→Prop) (h :
 ∃ r1:Int,drossref03_Valid.C x0 r1 ∧
 (if r1=0 then
 ∃ r2:Bool,drossref13_within.C ((x0.Attrs.length:Int)) ((bOr .u32 x1.Lhs x1.Rhs)) r2 ∧
 (if r2=true then
 drossref13_Holds.L1 x0 x1 0 φ
 else
 φ ((false,1)))
 else
 φ ((false,r1)))):∃ r,φ r∧C x0 x1 r:=
 mEnt (fd:=Tryz.f40) (body:=B) (V:=W) (res:=res) <|
 mCal 8 h (fun _ h=>h) fun r1 _ h=>
 mAskN 4 h bne_t bne_f (fun h=>
 mRet 7 h) fun h=>
 mLen 6 eS x0.Attrs <|
 mCalB 9 h (fun _ h=>h) (fun _ h=>
 mFin 15 h) fun _ h=>
 mRet 7 h
end drossref13_Holds
namespace drossref20_Right
noncomputable def B:Code:=(Tryz.f15.body).getD .skip
def W:List Nat:=[0,1,2,3,6,7,8,9,10,14,23,27,40]
def res (r:Bool):D×List D:=(.lit (.bool r),[])
def C (x0:api_Table) (x1:List api_FD) (x2:List api_MVD) (r:Bool):Prop:=Ret env 15 [.agg [.lit (.string x0.Name),.sl (x0.Attrs.map eS),.sl (x0.Rows.map enc_api_Row_2)],.sl (x1.map enc_api_FD),.sl (x2.map enc_api_MVD)] (res r).1 (res r).2
def L1 (x0:api_Table) (x1:List api_FD) (x2:List api_MVD) (z0:Int) (φ:Bool→Prop):Prop:=Pt env 15 W B [1,0,1,0] [(0,.agg [.lit (.string x0.Name),.sl (x0.Attrs.map eS),.sl (x0.Rows.map enc_api_Row_2)]),(1,.sl (x1.map enc_api_FD)),(2,.sl (x2.map enc_api_MVD)),(3,.box [.lit (.string x0.Name),.sl (x0.Attrs.map eS),.sl (x0.Rows.map enc_api_Row_2)]),(7,.lit (.int .i64 z0))] (Lv env 15 Tryz.f15 3 res φ)
def L2 (x0:api_Table) (x2:List api_MVD) (z0:Int) (φ:Bool→Prop):Prop:=Pt env 15 W B [1,1,0,1,0] [(0,.agg [.lit (.string x0.Name),.sl (x0.Attrs.map eS),.sl (x0.Rows.map enc_api_Row_2)]),(2,.sl (x2.map enc_api_MVD)),(3,.box [.lit (.string x0.Name),.sl (x0.Attrs.map eS),.sl (x0.Rows.map enc_api_Row_2)]),(8,.lit (.int .i64 z0))] (Lv env 15 Tryz.f15 3 res φ)
theorem L1_step (x0:api_Table) (x1:List api_FD) (x2:List api_MVD) (z0:Int) (φ:Bool→Prop) (h :
 (if z0<(x1.length:Int) then
 ∃ a1,lget x1 z0=some a1 ∧
 ∃ r3:Bool,drossref08_Satisfies.C x0 a1 r3 ∧
 (if r3=true then
 drossref20_Right.L1 x0 x1 x2 ((IntKind.wrap .i64 (z0+1))) φ
 else
 φ false)
 else
 drossref20_Right.L2 x0 x2 0 φ)):L1 x0 x1 x2 z0 φ:=
 mIn <|
 mLen 4 enc_api_FD x1 <|
 mAsk 0 h dT dF (fun h=>
 mIx 7 enc_api_FD h fun a1 h2 h=>
 mCalB 1 h (fun _ h=>h) (fun _ h=>
 mFin 9 h) fun _ h=>
 mRet 6 h) fun h=>
 mFin 6 h
theorem L2_step (x0:api_Table) (x2:List api_MVD) (z0:Int) (φ:Bool→Prop) (h :
 (if z0<(x2.length:Int) then
 ∃ a4,lget x2 z0=some a4 ∧
 ∃ r6:Bool×Int,drossref13_Holds.C x0 a4 r6 ∧
 (if r6.1=true then
 drossref20_Right.L2 x0 x2 ((IntKind.wrap .i64 (z0+1))) φ
 else
 φ false)
 else
 φ true)):L2 x0 x2 z0 φ:=
 mIn <|
 mLen 4 enc_api_MVD x2 <|
 mAsk 0 h dT dF (fun h=>
 mIx 7 enc_api_MVD h fun a4 h5 h=>
 mCal 1 h (fun _ h=>h) (hf:=(fun _=>clF_flat (flat_tup (flts_cons rfl (flts_cons rfl flts_nil))) rfl)) fun r6 _ h=>
 mAsk 7 h id fls (fun h=>
 mFin 9 h) fun h=>
 mRet 6 h) fun h=>
 mRet 6 h
theorem enter (x0:api_Table) (x1:List api_FD) (x2:List api_MVD) (φ:Bool→Prop) (h :
 drossref20_Right.L1 x0 x1 x2 0 φ):∃ r,φ r∧C x0 x1 x2 r:=
 mEnt (fd:=Tryz.f15) (body:=B) (V:=W) (res:=res) <|
 mFin 7 h
end drossref20_Right
namespace basis_Valid
noncomputable def B:Code:=(Tryz.f43.body).getD .skip
def W:List Nat:=[0,1,2,6,7,9,14,18,19,20,21,22,32]
def res (r:Int):D×List D:=(.lit (.int .i64 r),[])
def C (x0:Int) (x1:List api_FD) (x2:List api_MVD) (r:Int):Prop:=Ret env 43 [.lit (.int .i64 x0),.sl (x1.map enc_api_FD),.sl (x2.map enc_api_MVD)] (res r).1 (res r).2
def L1 (x0:Int) (x2:List api_MVD) (z0:Int) (φ:Int→Prop):Prop:=Pt env 43 W B [1,1,1,0,1,0] [(0,.lit (.int .i64 x0)),(2,.sl (x2.map enc_api_MVD)),(19,.sl (x2.map enc_api_MVD)),(20,.lit (.int .i64 ((x2.length:Int)))),(21,.lit (.int .i64 z0))] (Lv env 43 Tryz.f43 3 res φ)
theorem L1_step (x0:Int) (x2:List api_MVD) (z0:Int) (φ:Int→Prop) (h :
 (if z0<(x2.length:Int) then
 ∃ a2,lget x2 z0=some a2 ∧
 0≤x0 ∧
 (if (shrw .u32 (bOr .u32 a2.Lhs a2.Rhs) x0)=0 then
 basis_Valid.L1 x0 x2 ((IntKind.wrap .i64 (z0+1))) φ
 else
 φ 1)
 else
 φ 0)):L1 x0 x2 z0 φ:=
 mIn <|
 mAsk 2 h dT dF (fun h=>
 mIx 4 enc_api_MVD h fun a2 h3 h=>
 h.elim fun h4 h=>
 mBi 11 (bin_shr (t:=34) (q:=.u32) (q':=.i64) (i1:=(bOr .u32 a2.Lhs a2.Rhs)) h4) <|
 mAskN 0 h bne_t bne_f (fun h=>
 mRet 5 h) fun h=>
 mFin 7 h) fun h=>
 mRet 6 h
theorem enter (x0:Int) (x1:List api_FD) (x2:List api_MVD) (φ:Int→Prop) (h :
 ∃ r1:Int,closure_Valid.C x0 x1 r1 ∧
 (if r1=0 then
 (if 64<(x2.length:Int) then
 φ 3
 else
 basis_Valid.L1 x0 x2 0 φ)
 else
 φ r1)):∃ r,φ r∧C x0 x1 x2 r:=
 mEnt (fd:=Tryz.f43) (body:=B) (V:=W) (res:=res) <|
 mCal 6 h (fun _ h=>h) fun r1 _ h=>
 mAskN 4 h bne_t bne_f (fun h=>
 mRet 6 h) fun h=>
 mLen 5 enc_api_MVD x2 <|
 mAsk 0 h dT dF (fun h=>
 mRet 5 h) fun h=>
 mLen 5 enc_api_MVD x2 <|
 mFin 2 h
end basis_Valid
namespace drossref13_Two_put
noncomputable def B:Code:=(Tryz.f74.body).getD .skip
def W:List Nat:=[0,1,4,10,1000000]
def res (r:Bool×drossref13_Two):D×List D:=(.lit (.bool r.1),[.box [.own (r.2.Rows.map (eI .u32))]])
def C (x1:Int) (k0_0:List Int) (r:Bool×drossref13_Two):Prop:=Ret env 74 [.box [.own (k0_0.map (eI .u32))],.lit (.int .u32 x1)] (res r).1 (res r).2
theorem enter (x1:Int) (k0_0:List Int) (φ:Bool×drossref13_Two→Prop) (h :
 ∃ r1:Bool,drossref02_In.C k0_0 x1 r1 ∧
 (if r1=true then
 φ ((false,(⟨k0_0⟩:drossref13_Two)))
 else
 (k0_0.length+1)*4≤140737488355328 ∧
 φ ((true,(⟨(k0_0++[x1])⟩:drossref13_Two))))):∃ r,φ r∧C x1 k0_0 r:=
 mEnt (fd:=Tryz.f74) (body:=B) (V:=W) (res:=res) <|
 mCalB 9 h (fun _ h=>h) (hr:=by exact (pr_snap (snap_ow (s:=1000000) (ps:=[(0,0)]) (l:=k0_0) (e:=(eI .u32)) (e':=(eI .u32)) (fun _=>rfl) (by kernel_rfl)) (pr_k pr_nil))) (fun _ h=>
 mRet 5 h) fun _ h=>
 mApp 11 (eI .u32) k0_0 ([x1]) h fun h=>
 mRet 7 h
end drossref13_Two_put
namespace drossref13_Two_equate
noncomputable def B:Code:=(Tryz.f104.body).getD .skip
def W:List Nat:=[0,1,4,5,16,1000000]
def res (r:drossref13_Two):D×List D:=(.tup [],[.box [.own (r.Rows.map (eI .u32))]])
def C (x1:Int) (k0_0:List Int) (r:drossref13_Two):Prop:=Ret env 104 [.box [.own (k0_0.map (eI .u32))],.lit (.int .u32 x1)] (res r).1 (res r).2
def L1 (x1:Int) (k0_0:List Int) (z0:Int) (z1:List Int) (φ:drossref13_Two→Prop):Prop:=Pt env 104 W B [1,1,1,0] [(0,.alias 1000000 []),(1,.lit (.int .u32 x1)),(4,.own (k0_0.map (eI .u32))),(5,.lit (.int .i64 z0)),(1000000,.box [.own (z1.map (eI .u32))])] (Lv env 104 Tryz.f104 2 res φ)
theorem L1_step (x1:Int) (k0_0:List Int) (z0:Int) (z1:List Int) (φ:drossref13_Two→Prop) (h :
 (if z0<(k0_0.length:Int) then
 ∃ a1,lget k0_0 z0=some a1 ∧
 ∃ r3:Bool×drossref13_Two,drossref13_Two_put.C ((bAndNot .u32 a1 x1)) z1 r3 ∧
 drossref13_Two_equate.L1 x1 k0_0 ((IntKind.wrap .i64 (z0+1))) r3.2.Rows φ
 else
 φ ((⟨z1⟩:drossref13_Two)))):L1 x1 k0_0 z0 z1 φ:=
 mIn <|
 mLen 4 (eI .u32) k0_0 <|
 mAsk 0 h dT dF (fun h=>
 mIy 7 (eI .u32) h fun a1 h2 h=>
 mLd 0 (eI .u32) h2 <|
 mCal 2 h (fun _ h=>h) fun r3 _ h=>
 mFin 6 h) fun h=>
 mRet 2 h
theorem enter (x1:Int) (k0_0:List Int) (φ:drossref13_Two→Prop) (h :
 drossref13_Two_equate.L1 x1 k0_0 0 ([]) φ):∃ r,φ r∧C x1 k0_0 r:=
 mEnt (fd:=Tryz.f104) (body:=B) (V:=W) (res:=res) <|
 mFin 16 h
end drossref13_Two_equate
namespace drossref13_Two_fd
noncomputable def B:Code:=(Tryz.f75.body).getD .skip
def W:List Nat:=[0,1,3,4,5,6,7,14,23,52,1000000]
def res (r:Bool×drossref13_Two):D×List D:=(.lit (.bool r.1),[.box [.own (r.2.Rows.map (eI .u32))]])
def C (x1:api_FD) (k0_0:List Int) (r:Bool×drossref13_Two):Prop:=Ret env 75 [.box [.own (k0_0.map (eI .u32))],.agg [.lit (.int .u32 x1.Lhs),.lit (.int .u32 x1.Rhs)]] (res r).1 (res r).2
def L1 (x1:api_FD) (z0:Int) (k0_0:List Int) (φ:Bool×drossref13_Two→Prop):Prop:=Pt env 75 W B [1,0,1,0] [(0,.alias 1000000 []),(1,.agg [.lit (.int .u32 x1.Lhs),.lit (.int .u32 x1.Rhs)]),(3,.box [.lit (.int .u32 x1.Lhs),.lit (.int .u32 x1.Rhs)]),(5,.lit (.int .i64 z0)),(1000000,.box [.own (k0_0.map (eI .u32))])] (Lv env 75 Tryz.f75 2 res φ)
def L2 (x1:api_FD) (z0 z1:Int) (k0_0:List Int) (φ:Bool×drossref13_Two→Prop):Prop:=Pt env 75 W B [1,0,1,0,0,1,0,0,1,0] [(0,.alias 1000000 []),(1,.agg [.lit (.int .u32 x1.Lhs),.lit (.int .u32 x1.Rhs)]),(3,.box [.lit (.int .u32 x1.Lhs),.lit (.int .u32 x1.Rhs)]),(5,.lit (.int .i64 z0)),(6,.lit (.int .i64 z1)),(1000000,.box [.own (k0_0.map (eI .u32))])] (Lv env 75 Tryz.f75 2 res φ)
def L3 (x1:api_FD) (z0 z1:Int) (k0_0:List Int) (φ:Bool×drossref13_Two→Prop):Prop:=Pt env 75 W B [1,0,1,0,0,1,0,0,1,0,0,1,1] [(0,.alias 1000000 []),(1,.agg [.lit (.int .u32 x1.Lhs),.lit (.int .u32 x1.Rhs)]),(3,.box [.lit (.int .u32 x1.Lhs),.lit (.int .u32 x1.Rhs)]),(5,.lit (.int .i64 z0)),(6,.lit (.int .i64 z1)),(1000000,.box [.own (k0_0.map (eI .u32))])] (Lv env 75 Tryz.f75 2 res φ)
theorem L1_step (x1:api_FD) (z0:Int) (k0_0:List Int) (φ:Bool×drossref13_Two→Prop) (h :
 (if z0<(k0_0.length:Int) then
 drossref13_Two_fd.L2 x1 z0 0 k0_0 φ
 else
 φ ((false,(⟨k0_0⟩:drossref13_Two))))):L1 x1 z0 k0_0 φ:=
 mIn <|
 mLen 7 (eI .u32) k0_0 <|
 mAsk 0 h dT dF (fun h=>
 mFin 6 h) fun h=>
 mRet 6 h
theorem L2_step (x1:api_FD) (z0 z1:Int) (k0_0:List Int) (φ:Bool×drossref13_Two→Prop) (h :
 (if z1<(k0_0.length:Int) then
 ∃ a1,lget k0_0 z0=some a1 ∧
 ∃ a3,lget k0_0 z1=some a3 ∧
 (if (bAnd .u32 (bXor .u32 a1 a3) x1.Lhs)=0 then
 (if (bAnd .u32 (bXor .u32 a1 a3) x1.Rhs)=0 then
 drossref13_Two_fd.L3 x1 z0 z1 k0_0 φ
 else
 ∃ r5:drossref13_Two,drossref13_Two_equate.C ((bAnd .u32 (bXor .u32 a1 a3) x1.Rhs)) k0_0 r5 ∧
 φ ((true,r5)))
 else
 drossref13_Two_fd.L3 x1 z0 z1 k0_0 φ)
 else
 drossref13_Two_fd.L1 x1 ((IntKind.wrap .i64 (z0+1))) k0_0 φ)):L2 x1 z0 z1 k0_0 φ:=
 mIn <|
 mLen 7 (eI .u32) k0_0 <|
 mAsk 0 h dT dF (fun h=>
 mIy 9 (eI .u32) h fun a1 h2 h=>
 mLd 0 (eI .u32) h2 <|
 mIy 5 (eI .u32) h fun a3 h4 h=>
 mLd 0 (eI .u32) h4 <|
 mAsk 8 h beq_t beq_f (fun h=>
 mAskN 5 h bne_t bne_f (fun h=>
 mCal 9 h (fun _ h=>h) fun r5 _ h=>
 mRet 4 h) fun h=>
 mFin 4 h) fun h=>
 mFin 10 h) fun h=>
 mFin 8 h
theorem L3_step (x1:api_FD) (z0 z1:Int) (k0_0:List Int) (φ:Bool×drossref13_Two→Prop) (h :
 drossref13_Two_fd.L2 x1 z0 ((IntKind.wrap .i64 (z1+1))) k0_0 φ):L3 x1 z0 z1 k0_0 φ:=
 mIn <|
 mFin 5 h
theorem enter (x1:api_FD) (k0_0:List Int) (φ:Bool×drossref13_Two→Prop) (h :
 drossref13_Two_fd.L1 x1 0 k0_0 φ):∃ r,φ r∧C x1 k0_0 r:=
 mEnt (fd:=Tryz.f75) (body:=B) (V:=W) (res:=res) <|
 mFin 7 h
end drossref13_Two_fd
namespace drossref13_Two_mvd
noncomputable def B:Code:=(Tryz.f76.body).getD .skip
def W:List Nat:=[0,1,3,4,5,6,7,14,23,75,1000000]
def res (r:Bool×drossref13_Two):D×List D:=(.lit (.bool r.1),[.box [.own (r.2.Rows.map (eI .u32))]])
def C (x1:api_MVD) (k0_0:List Int) (r:Bool×drossref13_Two):Prop:=Ret env 76 [.box [.own (k0_0.map (eI .u32))],.agg [.lit (.int .u32 x1.Lhs),.lit (.int .u32 x1.Rhs)]] (res r).1 (res r).2
def L1 (x1:api_MVD) (z0:Bool) (z1:Int) (k0_0:List Int) (φ:Bool×drossref13_Two→Prop):Prop:=Pt env 76 W B [1,1,0,1,0] [(0,.alias 1000000 []),(1,.agg [.lit (.int .u32 x1.Lhs),.lit (.int .u32 x1.Rhs)]),(3,.box [.lit (.int .u32 x1.Lhs),.lit (.int .u32 x1.Rhs)]),(5,.lit (.bool z0)),(6,.lit (.int .i64 z1)),(1000000,.box [.own (k0_0.map (eI .u32))])] (Lv env 76 Tryz.f76 2 res φ)
def L2 (x1:api_MVD) (z0:Bool) (z1 z2:Int) (k0_0:List Int) (φ:Bool×drossref13_Two→Prop):Prop:=Pt env 76 W B [1,1,0,1,0,0,1,0,0,1,0] [(0,.alias 1000000 []),(1,.agg [.lit (.int .u32 x1.Lhs),.lit (.int .u32 x1.Rhs)]),(3,.box [.lit (.int .u32 x1.Lhs),.lit (.int .u32 x1.Rhs)]),(5,.lit (.bool z0)),(6,.lit (.int .i64 z1)),(7,.lit (.int .i64 z2)),(1000000,.box [.own (k0_0.map (eI .u32))])] (Lv env 76 Tryz.f76 2 res φ)
def L3 (x1:api_MVD) (z0:Bool) (z1 z2:Int) (z3:List Int) (φ:Bool×drossref13_Two→Prop):Prop:=Pt env 76 W B [1,1,0,1,0,0,1,0,0,1,0,0,1,1] [(0,.alias 1000000 []),(1,.agg [.lit (.int .u32 x1.Lhs),.lit (.int .u32 x1.Rhs)]),(3,.box [.lit (.int .u32 x1.Lhs),.lit (.int .u32 x1.Rhs)]),(5,.lit (.bool z0)),(6,.lit (.int .i64 z1)),(7,.lit (.int .i64 z2)),(1000000,.box [.own (z3.map (eI .u32))])] (Lv env 76 Tryz.f76 2 res φ)
theorem L1_step (x1:api_MVD) (z0:Bool) (z1:Int) (k0_0:List Int) (φ:Bool×drossref13_Two→Prop) (h :
 (if z1<(k0_0.length:Int) then
 drossref13_Two_mvd.L2 x1 z0 z1 0 k0_0 φ
 else
 φ ((z0,(⟨k0_0⟩:drossref13_Two))))):L1 x1 z0 z1 k0_0 φ:=
 mIn <|
 mLen 7 (eI .u32) k0_0 <|
 mAsk 0 h dT dF (fun h=>
 mFin 6 h) fun h=>
 mRet 7 h
theorem L2_step (x1:api_MVD) (z0:Bool) (z1 z2:Int) (k0_0:List Int) (φ:Bool×drossref13_Two→Prop) (h :
 (if z2<(k0_0.length:Int) then
 ∃ a1,lget k0_0 z1=some a1 ∧
 ∃ a3,lget k0_0 z2=some a3 ∧
 (if (bAnd .u32 (bXor .u32 a1 a3) x1.Lhs)=0 then
 ∃ r5:Bool×drossref13_Two,drossref13_Two_put.C ((bOr .u32 (bAnd .u32 a1 (bOr .u32 x1.Lhs x1.Rhs)) (bAndNot .u32 a3 (bOr .u32 x1.Lhs x1.Rhs)))) k0_0 r5 ∧
 (if r5.1=true then
 drossref13_Two_mvd.L3 x1 true z1 z2 r5.2.Rows φ
 else
 drossref13_Two_mvd.L3 x1 z0 z1 z2 r5.2.Rows φ)
 else
 drossref13_Two_mvd.L3 x1 z0 z1 z2 k0_0 φ)
 else
 drossref13_Two_mvd.L1 x1 z0 ((IntKind.wrap .i64 (z1+1))) k0_0 φ)):L2 x1 z0 z1 z2 k0_0 φ:=
 mIn <|
 mLen 7 (eI .u32) k0_0 <|
 mAsk 0 h dT dF (fun h=>
 mIy 9 (eI .u32) h fun a1 h2 h=>
 mLd 0 (eI .u32) h2 <|
 mIy 5 (eI .u32) h fun a3 h4 h=>
 mLd 0 (eI .u32) h4 <|
 mAsk 4 h beq_t beq_f (fun h=>
 mIyf 7 (eI .u32) h2 <|
 mLd 0 (eI .u32) h2 <|
 mIyf 11 (eI .u32) h4 <|
 mLd 0 (eI .u32) h4 <|
 mCal 7 h (fun _ h=>h) fun r5 _ h=>
 mAsk 0 h id fls (fun h=>
 mFin 5 h) fun h=>
 mFin 3 h) fun h=>
 mFin 34 h) fun h=>
 mFin 8 h
theorem L3_step (x1:api_MVD) (z0:Bool) (z1 z2:Int) (z3:List Int) (φ:Bool×drossref13_Two→Prop) (h :
 drossref13_Two_mvd.L2 x1 z0 z1 ((IntKind.wrap .i64 (z2+1))) z3 φ):L3 x1 z0 z1 z2 z3 φ:=
 mIn <|
 mFin 5 h
theorem enter (x1:api_MVD) (k0_0:List Int) (φ:Bool×drossref13_Two→Prop) (h :
 drossref13_Two_mvd.L1 x1 false 0 k0_0 φ):∃ r,φ r∧C x1 k0_0 r:=
 mEnt (fd:=Tryz.f76) (body:=B) (V:=W) (res:=res) <|
 mFin 10 h
end drossref13_Two_mvd
namespace drossref13_Two_live
noncomputable def B:Code:=(Tryz.f36.body).getD .skip
def W:List Nat:=[0,1,2,3,4,9]
def res (r:Int):D×List D:=(.lit (.int .u32 r),[])
def C (x0:drossref13_Two) (r:Int):Prop:=Ret env 36 [.agg [.sl (x0.Rows.map (eI .u32))]] (res r).1 (res r).2
def L1 (x0:drossref13_Two) (z0 z1:Int) (φ:Int→Prop):Prop:=Pt env 36 W B [1,1,0,1,0] [(0,.agg [.sl (x0.Rows.map (eI .u32))]),(1,.box [.sl (x0.Rows.map (eI .u32))]),(3,.lit (.int .u32 z0)),(4,.lit (.int .i64 z1))] (Lv env 36 Tryz.f36 1 res φ)
theorem L1_step (x0:drossref13_Two) (z0 z1:Int) (φ:Int→Prop) (h :
 (if z1<(x0.Rows.length:Int) then
 ∃ a1,lget x0.Rows z1=some a1 ∧
 drossref13_Two_live.L1 x0 ((bOr .u32 z0 a1)) ((IntKind.wrap .i64 (z1+1))) φ
 else
 φ z0)):L1 x0 z0 z1 φ:=
 mIn <|
 mLen 5 (eI .u32) x0.Rows <|
 mAsk 0 h dT dF (fun h=>
 mIx 8 (eI .u32) h fun a1 h2 h=>
 mFin 9 h) fun h=>
 mRet 7 h
theorem enter (x0:drossref13_Two) (φ:Int→Prop) (h :
 drossref13_Two_live.L1 x0 0 0 φ):∃ r,φ r∧C x0 r:=
 mEnt (fd:=Tryz.f36) (body:=B) (V:=W) (res:=res) <|
 mFin 10 h
end drossref13_Two_live
namespace drossref13_Chase
noncomputable def B:Code:=(Tryz.f35.body).getD .skip
def W:List Nat:=[0,1,2,3,8,9,10,11,12,20,24,31,35,42]
def res (r:drossref13_Two):D×List D:=(.agg [.own (r.Rows.map (eI .u32))],[])
def C (x0:Int) (x1:List api_FD) (x2:List api_MVD) (x3:Int) (r:drossref13_Two):Prop:=Ret env 35 [.lit (.int .i64 x0),.sl (x1.map enc_api_FD),.sl (x2.map enc_api_MVD),.lit (.int .u32 x3)] (res r).1 (res r).2
def L1 (x1:List api_FD) (x2:List api_MVD) (r2:Bool×drossref13_Two) (z0:Bool) (φ:drossref13_Two→Prop):Prop:=Pt env 35 W B [1,1,1,0,1,0] [(1,.sl (x1.map enc_api_FD)),(2,.sl (x2.map enc_api_MVD)),(8,.box [.own []]),(9,.box [.own (r2.2.Rows.map (eI .u32))]),(10,.lit (.bool z0))] (Lv env 35 Tryz.f35 4 res φ)
def L2 (x1:List api_FD) (x2:List api_MVD) (r2:Bool×drossref13_Two) (z0:Bool) (z1:Int) (φ:drossref13_Two→Prop):Prop:=Pt env 35 W B [1,1,1,0,1,0,0,1,0,1,0,1,0] [(1,.sl (x1.map enc_api_FD)),(2,.sl (x2.map enc_api_MVD)),(8,.box [.own []]),(9,.box [.own (r2.2.Rows.map (eI .u32))]),(10,.lit (.bool z0)),(11,.lit (.int .i64 z1))] (Lv env 35 Tryz.f35 4 res φ)
def L3 (x1:List api_FD) (x2:List api_MVD) (r2:Bool×drossref13_Two) (z0:Bool) (z1:Int) (φ:drossref13_Two→Prop):Prop:=Pt env 35 W B [1,1,1,0,1,0,0,1,0,1,0,1,0,0,1,0,0,0] [(1,.sl (x1.map enc_api_FD)),(2,.sl (x2.map enc_api_MVD)),(8,.box [.own []]),(9,.box [.own (r2.2.Rows.map (eI .u32))]),(10,.lit (.bool z0)),(11,.lit (.int .i64 z1))] (Lv env 35 Tryz.f35 4 res φ)
def L4 (x1:List api_FD) (x2:List api_MVD) (r2:Bool×drossref13_Two) (z0:Bool) (z1:Int) (φ:drossref13_Two→Prop):Prop:=Pt env 35 W B [1,1,1,0,1,0,0,1,0,1,1,1,0] [(1,.sl (x1.map enc_api_FD)),(2,.sl (x2.map enc_api_MVD)),(8,.box [.own []]),(9,.box [.own (r2.2.Rows.map (eI .u32))]),(10,.lit (.bool z0)),(12,.lit (.int .i64 z1))] (Lv env 35 Tryz.f35 4 res φ)
def L5 (x1:List api_FD) (x2:List api_MVD) (r8:Bool×drossref13_Two) (z0:Bool) (z1:Int) (φ:drossref13_Two→Prop):Prop:=Pt env 35 W B [1,1,1,0,1,0,0,1,0,1,1,1,0,0,1,1] [(1,.sl (x1.map enc_api_FD)),(2,.sl (x2.map enc_api_MVD)),(8,.box [.own []]),(9,.box [.own (r8.2.Rows.map (eI .u32))]),(10,.lit (.bool z0)),(12,.lit (.int .i64 z1))] (Lv env 35 Tryz.f35 4 res φ)
theorem L1_step (x1:List api_FD) (x2:List api_MVD) (r2:Bool×drossref13_Two) (z0:Bool) (φ:drossref13_Two→Prop) (h :
 (if z0=true then
 drossref13_Chase.L2 x1 x2 r2 false 0 φ
 else
 φ r2.2)):L1 x1 x2 r2 z0 φ:=
 mIn <|
 mAsk 2 h id fls (fun h=>
 mFin 9 h) fun h=>
 mRet 7 h
theorem L2_step (x1:List api_FD) (x2:List api_MVD) (r2:Bool×drossref13_Two) (z0:Bool) (z1:Int) (φ:drossref13_Two→Prop) (h :
 (if z1<(x1.length:Int) then
 drossref13_Chase.L3 x1 x2 r2 z0 z1 φ
 else
 drossref13_Chase.L4 x1 x2 r2 z0 0 φ)):L2 x1 x2 r2 z0 z1 φ:=
 mIn <|
 mLen 4 enc_api_FD x1 <|
 mAsk 0 h dT dF (fun h=>
 mFin 3 h) fun h=>
 mFin 6 h
theorem L3_step (x1:List api_FD) (x2:List api_MVD) (r2:Bool×drossref13_Two) (z0:Bool) (z1:Int) (φ:drossref13_Two→Prop) (h :
 ∃ a3,lget x1 z1=some a3 ∧
 ∃ r5:Bool×drossref13_Two,drossref13_Two_fd.C a3 r2.2.Rows r5 ∧
 (if r5.1=true then
 drossref13_Chase.L3 x1 x2 r5 true z1 φ
 else
 drossref13_Chase.L2 x1 x2 r5 z0 ((IntKind.wrap .i64 (z1+1))) φ)):L3 x1 x2 r2 z0 z1 φ:=
 mIn <|
 mIx 4 enc_api_FD h fun a3 h4 h=>
 mCal 1 h (fun _ h=>h) fun r5 _ h=>
 mCon 1 h id fls (fun h=>
 mFin 4 h) fun h=>
 mFin 6 h
theorem L4_step (x1:List api_FD) (x2:List api_MVD) (r2:Bool×drossref13_Two) (z0:Bool) (z1:Int) (φ:drossref13_Two→Prop) (h :
 (if z1<(x2.length:Int) then
 ∃ a6,lget x2 z1=some a6 ∧
 ∃ r8:Bool×drossref13_Two,drossref13_Two_mvd.C a6 r2.2.Rows r8 ∧
 (if r8.1=true then
 drossref13_Chase.L5 x1 x2 r8 true z1 φ
 else
 drossref13_Chase.L5 x1 x2 r8 z0 z1 φ)
 else
 drossref13_Chase.L1 x1 x2 r2 z0 φ)):L4 x1 x2 r2 z0 z1 φ:=
 mIn <|
 mLen 4 enc_api_MVD x2 <|
 mAsk 0 h dT dF (fun h=>
 mIx 6 enc_api_MVD h fun a6 h7 h=>
 mCal 1 h (fun _ h=>h) fun r8 _ h=>
 mCon 1 h id fls (fun h=>
 mFin 3 h) fun h=>
 mFin 1 h) fun h=>
 mFin 3 h
theorem L5_step (x1:List api_FD) (x2:List api_MVD) (r8:Bool×drossref13_Two) (z0:Bool) (z1:Int) (φ:drossref13_Two→Prop) (h :
 drossref13_Chase.L4 x1 x2 r8 z0 ((IntKind.wrap .i64 (z1+1))) φ):L5 x1 x2 r8 z0 z1 φ:=
 mIn <|
 mFin 5 h
theorem enter (x0:Int) (x1:List api_FD) (x2:List api_MVD) (x3:Int) (φ:drossref13_Two→Prop) (h :
 ∃ r1:Int,drossref02_Full.C x0 r1 ∧
 ∃ r2:Bool×drossref13_Two,drossref13_Two_put.C ((bAndNot .u32 r1 x3)) ([0]) r2 ∧
 drossref13_Chase.L1 x1 x2 r2 true φ):∃ r,φ r∧C x0 x1 x2 x3 r:=
 mEnt (fd:=Tryz.f35) (body:=B) (V:=W) (res:=res) <|
 mCal 11 h (fun _ h=>h) fun r1 _ h=>
 mCal 2 h (fun _ h=>h) fun r2 _ h=>
 mFin 4 h
end drossref13_Chase
namespace basis_blocks
def res (r:List Int):D×List D:=(.sl (r.map (eI .u32)),[])
def C (x0:Int) (x1:List api_MVD) (x2:Int) (r:List Int):Prop:=Ret env 91 [.lit (.int .i64 x0),.sl (x1.map enc_api_MVD),.lit (.int .u32 x2)] (res r).1 (res r).2
end basis_blocks
namespace basis_all
noncomputable def B:Code:=(Tryz.f92.body).getD .skip
def W:List Nat:=[0,1,4,5,7,9,12,13,14,15,20,21,22,23]
def res (r:List api_MVD):D×List D:=(.own (r.map enc_api_MVD),[])
def C (x0:List api_FD) (x1 r:List api_MVD):Prop:=Ret env 92 [.sl (x0.map enc_api_FD),.sl (x1.map enc_api_MVD)] (res r).1 (res r).2
def L1 (x0:List api_FD) (x1:List api_MVD) (z0:Int) (φ:List api_MVD→Prop):Prop:=Pt env 92 W B [1,1,0,1,0] [(0,.sl (x0.map enc_api_FD)),(5,.own (x1.map enc_api_MVD)),(12,.sl (x0.map enc_api_FD)),(13,.lit (.int .i64 ((x0.length:Int)))),(14,.lit (.int .i64 z0))] (Lv env 92 Tryz.f92 2 res φ)
def L2 (x0:List api_FD) (x1:List api_MVD) (a2:api_FD) (z0:Int) (r4:List Int) (z1:Int) (φ:List api_MVD→Prop):Prop:=Pt env 92 W B [1,1,0,1,0,0,1,1,0,0,1,1,0] [(0,.sl (x0.map enc_api_FD)),(5,.own (x1.map enc_api_MVD)),(7,.box [.lit (.int .u32 a2.Lhs),.lit (.int .u32 a2.Rhs)]),(12,.sl (x0.map enc_api_FD)),(13,.lit (.int .i64 ((x0.length:Int)))),(14,.lit (.int .i64 z0)),(20,.own (r4.map (eI .i64))),(21,.lit (.int .i64 ((r4.length:Int)))),(22,.lit (.int .i64 z1))] (Lv env 92 Tryz.f92 2 res φ)
theorem L1_step (x0:List api_FD) (x1:List api_MVD) (z0:Int) (φ:List api_MVD→Prop) (h :
 (if z0<(x0.length:Int) then
 ∃ a2,lget x0 z0=some a2 ∧
 ∃ r4:List Int,attrset_Members.C a2.Rhs r4 ∧
 basis_all.L2 x0 x1 a2 z0 r4 0 φ
 else
 φ x1)):L1 x0 x1 z0 φ:=
 mIn <|
 mAsk 2 h dT dF (fun h=>
 mIx 4 enc_api_FD h fun a2 h3 h=>
 mCal 7 h (fun _ h=>h) (hf:=(fun _=>clF_flat (flat_ow (e:=(eI .i64)) (fun _=>rfl)) rfl)) fun r4 _ h=>
 mLen 0 (eI .i64) r4 <|
 mFin 2 h) fun h=>
 mRet 7 h
theorem L2_step (x0:List api_FD) (x1:List api_MVD) (a2:api_FD) (z0:Int) (r4:List Int) (z1:Int) (φ:List api_MVD→Prop) (h :
 (if z1<(r4.length:Int) then
 ∃ a5,lget r4 z1=some a5 ∧
 0≤a5 ∧
 (x1.length+1)*8≤140737488355328 ∧
 basis_all.L2 x0 ((x1++[(⟨a2.Lhs,(shlw .u32 1 a5)⟩:api_MVD)])) a2 z0 r4 ((IntKind.wrap .i64 (z1+1))) φ
 else
 basis_all.L1 x0 x1 ((IntKind.wrap .i64 (z0+1))) φ)):L2 x0 x1 a2 z0 r4 z1 φ:=
 mIn <|
 mAsk 2 h dT dF (fun h=>
 mIy 4 (eI .i64) h fun a5 h6 h=>
 mLd 0 (eI .i64) h6 <|
 h.elim fun h7 h=>
 mBi 7 (bin_shl (t:=34) (q:=.u32) (q':=.i64) (i1:=1) h7) <|
 mApp 2 enc_api_MVD x1 ([(⟨a2.Lhs,(shlw .u32 1 a5)⟩:api_MVD)]) h fun h=>
 mFin 6 h) fun h=>
 mFin 7 h
theorem enter (x0:List api_FD) (x1:List api_MVD) (φ:List api_MVD→Prop) (h :
 x1.length*8≤140737488355328 ∧
 basis_all.L1 x0 x1 0 φ):∃ r,φ r∧C x0 x1 r:=
 mEnt (fd:=Tryz.f92) (body:=B) (V:=W) (res:=res) <|
 h.elim fun h1 h=>
 mCalP 5 (show Ret env 120 [.sl (x1.map enc_api_MVD)] (.own (x1.map enc_api_MVD)) [] from ret_clone (k:=2) (b:=8) (e:=enc_api_MVD) (l:=x1) (by kernel_rfl) (fun _=>rfl) h1) (hf:=(clF_flat (flat_ow (e:=enc_api_MVD) (fun _=>rfl)) rfl)) <|
 mLen 4 enc_api_FD x0 <|
 mFin 2 h
end basis_all
namespace drossref09_List
noncomputable def B:Code:=(Tryz.f59.body).getD .skip
def W:List Nat:=[0,1,4,5,6,7,13]
def res (r:List api_FD):D×List D:=(.own (r.map enc_api_FD),[])
def C (x0:Int) (x1:List drossref09_Dep) (r:List api_FD):Prop:=Ret env 59 [.lit (.int .i64 x0),.sl (x1.map enc_drossref09_Dep)] (res r).1 (res r).2
def L1 (x1:List drossref09_Dep) (r1:Int) (z0:List api_FD) (z1:Int) (φ:List api_FD→Prop):Prop:=Pt env 59 W B [1,1,1,0,1,0] [(1,.sl (x1.map enc_drossref09_Dep)),(5,.lit (.int .u32 r1)),(6,.own (z0.map enc_api_FD)),(7,.lit (.int .i64 z1))] (Lv env 59 Tryz.f59 2 res φ)
theorem L1_step (x1:List drossref09_Dep) (r1:Int) (z0:List api_FD) (z1:Int) (φ:List api_FD→Prop) (h :
 (if z1<(x1.length:Int) then
 ∃ a2,lget x1 z1=some a2 ∧
 (z0.length+1)*8≤140737488355328 ∧
 drossref09_List.L1 x1 r1 ((z0++[(⟨(bAnd .u32 (IntKind.wrap .u32 a2.L) r1),(bAnd .u32 (IntKind.wrap .u32 a2.R) r1)⟩:api_FD)])) ((IntKind.wrap .i64 (z1+1))) φ
 else
 φ z0)):L1 x1 r1 z0 z1 φ:=
 mIn <|
 mLen 4 enc_drossref09_Dep x1 <|
 mAsk 0 h dT dF (fun h=>
 mIx 7 enc_drossref09_Dep h fun a2 h3 h=>
 mIxf 7 enc_drossref09_Dep h3 <|
 mApp 7 enc_api_FD z0 ([(⟨(bAnd .u32 (IntKind.wrap .u32 a2.L) r1),(bAnd .u32 (IntKind.wrap .u32 a2.R) r1)⟩:api_FD)]) h fun h=>
 mFin 7 h) fun h=>
 mRet 7 h
theorem enter (x0:Int) (x1:List drossref09_Dep) (φ:List api_FD→Prop) (h :
 ∃ r1:Int,drossref02_Full.C x0 r1 ∧
 drossref09_List.L1 x1 r1 ([]) 0 φ):∃ r,φ r∧C x0 x1 r:=
 mEnt (fd:=Tryz.f59) (body:=B) (V:=W) (res:=res) <|
 mCal 5 h (fun _ h=>h) fun r1 _ h=>
 mFin 8 h
end drossref09_List
namespace drossref09_Of
noncomputable def B:Code:=(Tryz.f26.body).getD .skip
def W:List Nat:=[0,1,2,3,4,5]
def res (r:Int×List api_FD×Bool):D×List D:=(.tup [.lit (.int .i64 r.1),.sl (r.2.1.map enc_api_FD),.lit (.bool r.2.2)],[])
def C (x0:drossref09_Deps) (r:Int×List api_FD×Bool):Prop:=Ret env 26 [.agg [.lit (.int .u8 x0.N),.sl (x0.L.map enc_drossref09_Dep)]] (res r).1 (res r).2
theorem enter (x0:drossref09_Deps) (φ:Int×List api_FD×Bool→Prop) (h :
 ∃ r1:List api_FD,drossref09_List.C ((IntKind.wrap .i64 (Int.tmod x0.N 7))) x0.L r1 ∧
 φ (((IntKind.wrap .i64 (Int.tmod x0.N 7)),r1,(decide ((x0.L.length:Int)≤6))))):∃ r,φ r∧C x0 r:=
 mEnt (fd:=Tryz.f26) (body:=B) (V:=W) (res:=res) <|
 mLoE 18 h (fun _ h=>h) (fun (r1:List api_FD)=>cold_ow (l:=r1) (e:=enc_api_FD) (e':=enc_api_FD) rfl (fun _=>rfl)) (hf:=(fun _=>loF_flat (flat_ow (e:=enc_api_FD) (fun _=>rfl)))) fun r1 _ h=>
 mLen 2 enc_drossref09_Dep x0.L <|
 mRet 5 h
end drossref09_Of
namespace drossref13_Close
noncomputable def B:Code:=(Tryz.f13.body).getD .skip
def W:List Nat:=[0,1,2,3,8]
def res (r:Int):D×List D:=(.lit (.int .u32 r),[])
def C (x0:Int) (x1:List api_FD) (x2:List api_MVD) (x3 r:Int):Prop:=Ret env 13 [.lit (.int .i64 x0),.sl (x1.map enc_api_FD),.sl (x2.map enc_api_MVD),.lit (.int .u32 x3)] (res r).1 (res r).2
theorem enter (x0:Int) (x1:List api_FD) (x2:List api_MVD) (x3:Int) (φ:Int→Prop) (h :
 ∃ r1:Int,drossref02_Full.C x0 r1 ∧
 ∃ r2:drossref13_Two,drossref13_Chase.C x0 x1 x2 x3 r2 ∧
 ∃ r3:Int,drossref13_Two_live.C r2 r3 ∧
 φ ((bAndNot .u32 r1 r3))):∃ r,φ r∧C x0 x1 x2 x3 r:=
 mEnt (fd:=Tryz.f13) (body:=B) (V:=W) (res:=res) <|
 mCal 5 h (fun _ h=>h) fun r1 _ h=>
 mCal 4 h (fun _ h=>h) (hf:=(fun _=>clF_flat (flat_agg (flts_cons (flat_ow (e:=(eI .u32)) (fun _=>rfl)) flts_nil)) rfl)) fun r2 _ h=>
 mCal 0 h (fun _ h=>h) (hr:=by exact (pr_snap (snap_agg (snaps_cons (d:=.alias 15 [(0,0)]) (d':=.sl (r2.Rows.map (eI .u32))) (snap_ow (s:=15) (ps:=[(0,0)]) (l:=r2.Rows) (e:=(eI .u32)) (e':=(eI .u32)) (fun _=>rfl) (by kernel_rfl)) snaps_nil)) pr_nil)) fun r3 _ h=>
 mRet 3 h
end drossref13_Close
namespace basis_check
noncomputable def B:Code:=(Tryz.f69.body).getD .skip
def W:List Nat:=[0,1,2,3,8,9,15,20]
def res (r:Int):D×List D:=(.lit (.int .i64 r),[])
def C (x0:Int) (x1:List api_FD) (x2:List api_MVD) (x3 r:Int):Prop:=Ret env 69 [.lit (.int .i64 x0),.sl (x1.map enc_api_FD),.sl (x2.map enc_api_MVD),.lit (.int .u32 x3)] (res r).1 (res r).2
theorem enter (x0:Int) (x1:List api_FD) (x2:List api_MVD) (x3:Int) (φ:Int→Prop) (h :
 ∃ r1:Int,basis_Valid.C x0 x1 x2 r1 ∧
 (if r1=0 then
 0≤x0 ∧
 (if (shrw .u32 x3 x0)=0 then
 φ 0
 else
 φ 1)
 else
 φ r1)):∃ r,φ r∧C x0 x1 x2 x3 r:=
 mEnt (fd:=Tryz.f69) (body:=B) (V:=W) (res:=res) <|
 mCal 7 h (fun _ h=>h) fun r1 _ h=>
 mAskN 4 h bne_t bne_f (fun h=>
 mRet 6 h) fun h=>
 h.elim fun h2 h=>
 mBi 6 (bin_shr (t:=34) (q:=.u32) (q':=.i64) (i1:=x3) h2) <|
 mAskN 0 h bne_t bne_f (fun h=>
 mRet 5 h) fun h=>
 mRet 6 h
end basis_check
namespace basis_Close_1
noncomputable def B:Code:=(Tryz.f102.body).getD .skip
def W:List Nat:=[0,1,2,3]
def res (r:Bool):D×List D:=(.lit (.bool r),[])
def C (x0:api_FD) (k1_0:Int) (r:Bool):Prop:=Ret env 102 [.agg [.lit (.int .u32 x0.Lhs),.lit (.int .u32 x0.Rhs)],.ref [.lit (.int .u32 k1_0)]] (res r).1 (res r).2
theorem enter (x0:api_FD) (k1_0:Int) (φ:Bool→Prop) (h :
 φ (((bAnd .u32 (bAndNot .u32 x0.Rhs x0.Lhs) k1_0) != 0))):∃ r,φ r∧C x0 k1_0 r:=
 mEnt (fd:=Tryz.f102) (body:=B) (V:=W) (res:=res) <|
 mRet 15 h
end basis_Close_1
namespace slices_IndexFunc_sapi_FD_api_FD_basis_Close_1
noncomputable def B:Code:=(Tryz.f130.body).getD .skip
def W:List Nat:=[0,1,4,5,7,8,9,16]
def res (r:Int):D×List D:=(.lit (.int .i64 r),[])
def C (x0:List api_FD) (k1_0 r:Int):Prop:=Ret env 130 [.sl (x0.map enc_api_FD),.fn 102 [.ref [.lit (.int .u32 k1_0)]]] (res r).1 (res r).2
def L1 (x0:List api_FD) (k1_0 z0:Int) (φ:Int→Prop):Prop:=Pt env 130 W B [1,0,1,0] [(0,.sl (x0.map enc_api_FD)),(1,.fn 102 [.ref [.lit (.int .u32 k1_0)]]),(7,.lit (.int .i64 ((x0.length:Int)))),(8,.lit (.int .i64 z0))] (Lv env 130 Tryz.f130 2 res φ)
theorem L1_step (x0:List api_FD) (k1_0 z0:Int) (φ:Int→Prop) (h :
 (if z0<(x0.length:Int) then
 ∃ a1,lget x0 z0=some a1 ∧
 ∃ r3:Bool,basis_Close_1.C a1 k1_0 r3 ∧
 (if r3=true then
 φ z0
 else
 slices_IndexFunc_sapi_FD_api_FD_basis_Close_1.L1 x0 k1_0 ((IntKind.wrap .i64 (z0+1))) φ)
 else
 φ ((-1)))):L1 x0 k1_0 z0 φ:=
 mIn <|
 mAsk 2 h dT dF (fun h=>
 mIx 11 enc_api_FD h fun a1 h2 h=>
 mCalB 1 h (fun _ h=>h) (fun _ h=>
 mRet 6 h) fun _ h=>
 mFin 7 h) fun h=>
 mRet 6 h
theorem enter (x0:List api_FD) (k1_0:Int) (φ:Int→Prop) (h :
 slices_IndexFunc_sapi_FD_api_FD_basis_Close_1.L1 x0 k1_0 0 φ):∃ r,φ r∧C x0 k1_0 r:=
 mEnt (fd:=Tryz.f130) (body:=B) (V:=W) (res:=res) <|
 mLen 5 enc_api_FD x0 <|
 mFin 2 h
end slices_IndexFunc_sapi_FD_api_FD_basis_Close_1
namespace slices_ContainsFunc_sapi_FD_api_FD_basis_Close_1
noncomputable def B:Code:=(Tryz.f101.body).getD .skip
def W:List Nat:=[0,1,4]
def res (r:Bool):D×List D:=(.lit (.bool r),[])
def C (x0:List api_FD) (k1_0:Int) (r:Bool):Prop:=Ret env 101 [.sl (x0.map enc_api_FD),.fn 102 [.ref [.lit (.int .u32 k1_0)]]] (res r).1 (res r).2
theorem enter (x0:List api_FD) (k1_0:Int) (φ:Bool→Prop) (h :
 ∃ r1:Int,slices_IndexFunc_sapi_FD_api_FD_basis_Close_1.C x0 k1_0 r1 ∧
 φ ((decide (0≤r1)))):∃ r,φ r∧C x0 k1_0 r:=
 mEnt (fd:=Tryz.f101) (body:=B) (V:=W) (res:=res) <|
 mCal 6 h (fun _ h=>h) fun r1 _ h=>
 mRet 3 h
end slices_ContainsFunc_sapi_FD_api_FD_basis_Close_1
namespace basis_Close
noncomputable def B:Code:=(Tryz.f70.body).getD .skip
def W:List Nat:=[0,1,2,3,8,9,10,11,13,20,28,29,30,31,36,39]
def res (r:Int×Int):D×List D:=(.tup [.lit (.int .u32 r.1),.lit (.int .i64 r.2)],[])
def C (x0:Int) (x1:List api_FD) (x2:List api_MVD) (x3:Int) (r:Int×Int):Prop:=Ret env 70 [.lit (.int .i64 x0),.sl (x1.map enc_api_FD),.sl (x2.map enc_api_MVD),.lit (.int .u32 x3)] (res r).1 (res r).2
def L1 (x1:List api_FD) (x3:Int) (r3:List Int) (z0:Int) (φ:Int×Int→Prop):Prop:=Pt env 70 W B [1,1,1,0,1,0] [(1,.sl (x1.map enc_api_FD)),(11,.lit (.int .u32 x3)),(28,.sl (r3.map (eI .u32))),(29,.lit (.int .i64 ((r3.length:Int)))),(30,.lit (.int .i64 z0))] (Lv env 70 Tryz.f70 4 res φ)
def L2 (x1:List api_FD) (x3:Int) (r3:List Int) (z0:Int) (φ:Int×Int→Prop):Prop:=Pt env 70 W B [1,1,1,0,1,0,0,1,1,1] [(1,.sl (x1.map enc_api_FD)),(11,.lit (.int .u32 x3)),(28,.sl (r3.map (eI .u32))),(29,.lit (.int .i64 ((r3.length:Int)))),(30,.lit (.int .i64 z0))] (Lv env 70 Tryz.f70 4 res φ)
theorem L1_step (x1:List api_FD) (x3:Int) (r3:List Int) (z0:Int) (φ:Int×Int→Prop) (h :
 (if z0<(r3.length:Int) then
 ∃ a4,lget r3 z0=some a4 ∧
 ∃ r6:Int,attrset_Size.C a4 r6 ∧
 (if r6=1 then
 ∃ r7:Bool,slices_ContainsFunc_sapi_FD_api_FD_basis_Close_1.C x1 a4 r7 ∧
 (if r7=true then
 basis_Close.L2 x1 ((bOr .u32 x3 a4)) r3 z0 φ
 else
 basis_Close.L2 x1 x3 r3 z0 φ)
 else
 basis_Close.L2 x1 x3 r3 z0 φ)
 else
 φ ((x3,0)))):L1 x1 x3 r3 z0 φ:=
 mIn <|
 mAsk 2 h dT dF (fun h=>
 mIx 4 (eI .u32) h fun a4 h5 h=>
 mCal 6 h (fun _ h=>h) fun r6 _ h=>
 mAskN 0 h bne_t bne_f (fun h=>
 mFin 3 h) fun h=>
 mCalB 6 h (fun _ h=>h) (fun _ h=>
 mFin 8 h) fun _ h=>
 mFin 3 h) fun h=>
 mRet 8 h
theorem L2_step (x1:List api_FD) (x3:Int) (r3:List Int) (z0:Int) (φ:Int×Int→Prop) (h :
 basis_Close.L1 x1 x3 r3 ((IntKind.wrap .i64 (z0+1))) φ):L2 x1 x3 r3 z0 φ:=
 mIn <|
 mFin 4 h
theorem enter (x0:Int) (x1:List api_FD) (x2:List api_MVD) (x3:Int) (φ:Int×Int→Prop) (h :
 ∃ r1:Int,basis_check.C x0 x1 x2 x3 r1 ∧
 (if r1=0 then
 ∃ r2:List api_MVD,basis_all.C x1 x2 r2 ∧
 ∃ r3:List Int,basis_blocks.C x0 r2 x3 r3 ∧
 basis_Close.L1 x1 x3 r3 0 φ
 else
 φ ((0,r1)))):∃ r,φ r∧C x0 x1 x2 x3 r:=
 mEnt (fd:=Tryz.f70) (body:=B) (V:=W) (res:=res) <|
 mCal 9 h (fun _ h=>h) fun r1 _ h=>
 mAskN 4 h bne_t bne_f (fun h=>
 mRet 7 h) fun h=>
 mCalE 11 h (fun _ h=>h) (fun (r2:List api_MVD)=>cold_ow (l:=r2) (e:=enc_api_MVD) (e':=enc_api_MVD) rfl (fun _=>rfl)) (hf:=(fun _=>clF_flat (flat_ow (e:=enc_api_MVD) (fun _=>rfl)) rfl)) fun r2 _ h=>
 mCal 1 h (fun _ h=>h) (hf:=(fun _=>clF_both)) fun r3 _ h=>
 mLen 0 (eI .u32) r3 <|
 mFin 2 h
end basis_Close
namespace drossref13_List
noncomputable def B:Code:=(Tryz.f27.body).getD .skip
def W:List Nat:=[0,1,4,5,6,7,14]
def res (r:List api_MVD):D×List D:=(.own (r.map enc_api_MVD),[])
def C (x0:Int) (x1:List drossref09_Dep) (r:List api_MVD):Prop:=Ret env 27 [.lit (.int .i64 x0),.sl (x1.map enc_drossref09_Dep)] (res r).1 (res r).2
def L1 (z0:List api_MVD) (r1:List api_FD) (z1:Int) (φ:List api_MVD→Prop):Prop:=Pt env 27 W B [1,1,1,0,1,0] [(5,.own (z0.map enc_api_MVD)),(6,.own (r1.map enc_api_FD)),(7,.lit (.int .i64 z1))] (Lv env 27 Tryz.f27 2 res φ)
theorem L1_step (z0:List api_MVD) (r1:List api_FD) (z1:Int) (φ:List api_MVD→Prop) (h :
 (if z1<(r1.length:Int) then
 ∃ a2,lget r1 z1=some a2 ∧
 (z0.length+1)*8≤140737488355328 ∧
 drossref13_List.L1 ((z0++[(⟨a2.Lhs,a2.Rhs⟩:api_MVD)])) r1 ((IntKind.wrap .i64 (z1+1))) φ
 else
 φ z0)):L1 z0 r1 z1 φ:=
 mIn <|
 mLen 4 enc_api_FD r1 <|
 mAsk 0 h dT dF (fun h=>
 mIy 7 enc_api_FD h fun a2 h3 h=>
 mLd 1 enc_api_FD h3 <|
 mIyf 2 enc_api_FD h3 <|
 mLd 1 enc_api_FD h3 <|
 mApp 2 enc_api_MVD z0 ([(⟨a2.Lhs,a2.Rhs⟩:api_MVD)]) h fun h=>
 mFin 7 h) fun h=>
 mRet 7 h
theorem enter (x0:Int) (x1:List drossref09_Dep) (φ:List api_MVD→Prop) (h :
 ∃ r1:List api_FD,drossref09_List.C x0 x1 r1 ∧
 drossref13_List.L1 ([]) r1 0 φ):∃ r,φ r∧C x0 x1 r:=
 mEnt (fd:=Tryz.f27) (body:=B) (V:=W) (res:=res) <|
 mCal 9 h (fun _ h=>h) (hf:=(fun _=>clF_flat (flat_ow (e:=enc_api_FD) (fun _=>rfl)) rfl)) fun r1 _ h=>
 mFin 5 h
end drossref13_List
namespace refute_limits
noncomputable def B:Code:=(Tryz.f31.body).getD .skip
def W:List Nat:=[0,1,2,3,4,10,11,17,20,26]
def res (r:Int):D×List D:=(.lit (.int .i64 r),[])
def C (x0:Int) (x1:List api_FD) (x2:List api_MVD) (x3 x4 r:Int):Prop:=Ret env 31 [.lit (.int .i64 x0),.sl (x1.map enc_api_FD),.sl (x2.map enc_api_MVD),.lit (.int .u32 x3),.lit (.int .u32 x4)] (res r).1 (res r).2
theorem enter (x0:Int) (x1:List api_FD) (x2:List api_MVD) (x3 x4:Int) (φ:Int→Prop) (h :
 ∃ r1:Int,basis_Valid.C x0 x1 x2 r1 ∧
 (if r1=0 then
 (if 8<x0 then
 φ 3
 else
 ∃ r2:Bool,refute_within.C x0 ((bOr .u32 x3 x4)) r2 ∧
 (if r2=true then
 φ 0
 else
 φ 1))
 else
 φ r1)):∃ r,φ r∧C x0 x1 x2 x3 x4 r:=
 mEnt (fd:=Tryz.f31) (body:=B) (V:=W) (res:=res) <|
 mCal 7 h (fun _ h=>h) fun r1 _ h=>
 mAskN 4 h bne_t bne_f (fun h=>
 mRet 6 h) fun h=>
 mAsk 5 h dT dF (fun h=>
 mRet 5 h) fun h=>
 mCalB 8 h (fun _ h=>h) (fun _ h=>
 mRet 7 h) fun _ h=>
 mRet 6 h
end refute_limits
namespace basis_ImpliesFD
noncomputable def B:Code:=(Tryz.f32.body).getD .skip
def W:List Nat:=[0,1,2,3,7,8,9,10,11,12,23]
def res (r:Bool×Int):D×List D:=(.tup [.lit (.bool r.1),.lit (.int .i64 r.2)],[])
def C (x0:Int) (x1:List api_FD) (x2:List api_MVD) (x3:api_FD) (r:Bool×Int):Prop:=Ret env 32 [.lit (.int .i64 x0),.sl (x1.map enc_api_FD),.sl (x2.map enc_api_MVD),.agg [.lit (.int .u32 x3.Lhs),.lit (.int .u32 x3.Rhs)]] (res r).1 (res r).2
theorem enter (x0:Int) (x1:List api_FD) (x2:List api_MVD) (x3:api_FD) (φ:Bool×Int→Prop) (h :
 ∃ r1:Int,basis_check.C x0 x1 x2 ((bOr .u32 x3.Lhs x3.Rhs)) r1 ∧
 (if r1=0 then
 ∃ r2:Int×Int,basis_Close.C x0 x1 x2 x3.Lhs r2 ∧
 φ ((((bAndNot .u32 x3.Rhs r2.1) == 0),0))
 else
 φ ((false,r1)))):∃ r,φ r∧C x0 x1 x2 x3 r:=
 mEnt (fd:=Tryz.f32) (body:=B) (V:=W) (res:=res) <|
 mCal 14 h (fun _ h=>h) fun r1 _ h=>
 mAskN 4 h bne_t bne_f (fun h=>
 mRet 7 h) fun h=>
 mCal 9 h (fun _ h=>h) (hf:=(fun _=>clF_flat (flat_tup (flts_cons rfl (flts_cons rfl flts_nil))) rfl)) fun r2 _ h=>
 mRet 15 h
end basis_ImpliesFD
namespace drossref13_Of
noncomputable def B:Code:=(Tryz.f8.body).getD .skip
def W:List Nat:=[0,1,2,3,4,5,6,7,8]
def res (r:Int×List api_FD×List api_MVD×Bool):D×List D:=(.tup [.lit (.int .i64 r.1),.sl (r.2.1.map enc_api_FD),.sl (r.2.2.1.map enc_api_MVD),.lit (.bool r.2.2.2)],[])
def C (x0:drossref13_Mixed) (r:Int×List api_FD×List api_MVD×Bool):Prop:=Ret env 8 [.agg [.lit (.int .u8 x0.D.N),.sl (x0.D.L.map enc_drossref09_Dep),.sl (x0.M.map enc_drossref09_Dep)]] (res r).1 (res r).2
theorem enter (x0:drossref13_Mixed) (φ:Int×List api_FD×List api_MVD×Bool→Prop) (h :
 ∃ r1:Int×List api_FD×Bool,drossref09_Of.C x0.D r1 ∧
 ∃ r2:List api_MVD,drossref13_List.C r1.1 x0.M r2 ∧
 (if r1.2.2=true then
 φ ((r1.1,r1.2.1,r2,(decide ((x0.M.length:Int)≤4))))
 else
 φ ((r1.1,r1.2.1,r2,false)))):∃ r,φ r∧C x0 r:=
 mEnt (fd:=Tryz.f8) (body:=B) (V:=W) (res:=res) <|
 mCal 10 h (fun _ h=>h) (hf:=(fun _=>clF_both)) fun r1 _ h=>
 mLoE 14 h (fun _ h=>h) (fun (r2:List api_MVD)=>cold_ow (l:=r2) (e:=enc_api_MVD) (e':=enc_api_MVD) rfl (fun _=>rfl)) (hf:=(fun _=>loF_flat (flat_ow (e:=enc_api_MVD) (fun _=>rfl)))) fun r2 _ h=>
 mAsk 0 h id fls (fun h=>
 mLen 3 enc_drossref09_Dep x0.M <|
 mRet 7 h) fun h=>
 mRet 11 h
end drossref13_Of
namespace slices_Index_sapi_Set_api_Set
noncomputable def B:Code:=(Tryz.f103.body).getD .skip
def W:List Nat:=[0,1,4,5,7,8,9,16]
def res (r:Int):D×List D:=(.lit (.int .i64 r),[])
def C (x0:List Int) (x1 r:Int):Prop:=Ret env 103 [.sl (x0.map (eI .u32)),.lit (.int .u32 x1)] (res r).1 (res r).2
def L1 (x0:List Int) (x1 z0:Int) (φ:Int→Prop):Prop:=Pt env 103 W B [1,0,1,0] [(0,.sl (x0.map (eI .u32))),(1,.lit (.int .u32 x1)),(7,.lit (.int .i64 ((x0.length:Int)))),(8,.lit (.int .i64 z0))] (Lv env 103 Tryz.f103 2 res φ)
theorem L1_step (x0:List Int) (x1 z0:Int) (φ:Int→Prop) (h :
 (if z0<(x0.length:Int) then
 ∃ a1,lget x0 z0=some a1 ∧
 (if x1=a1 then
 φ z0
 else
 slices_Index_sapi_Set_api_Set.L1 x0 x1 ((IntKind.wrap .i64 (z0+1))) φ)
 else
 φ ((-1)))):L1 x0 x1 z0 φ:=
 mIn <|
 mAsk 2 h dT dF (fun h=>
 mIx 11 (eI .u32) h fun a1 h2 h=>
 mAsk 1 h beq_t beq_f (fun h=>
 mRet 6 h) fun h=>
 mFin 7 h) fun h=>
 mRet 6 h
theorem enter (x0:List Int) (x1:Int) (φ:Int→Prop) (h :
 slices_Index_sapi_Set_api_Set.L1 x0 x1 0 φ):∃ r,φ r∧C x0 x1 r:=
 mEnt (fd:=Tryz.f103) (body:=B) (V:=W) (res:=res) <|
 mLen 5 (eI .u32) x0 <|
 mFin 2 h
end slices_Index_sapi_Set_api_Set
namespace slices_Contains_sapi_Set_api_Set
noncomputable def B:Code:=(Tryz.f72.body).getD .skip
def W:List Nat:=[0,1,4]
def res (r:Bool):D×List D:=(.lit (.bool r),[])
def C (x0:List Int) (x1:Int) (r:Bool):Prop:=Ret env 72 [.sl (x0.map (eI .u32)),.lit (.int .u32 x1)] (res r).1 (res r).2
theorem enter (x0:List Int) (x1:Int) (φ:Bool→Prop) (h :
 ∃ r1:Int,slices_Index_sapi_Set_api_Set.C x0 x1 r1 ∧
 φ ((decide (0≤r1)))):∃ r,φ r∧C x0 x1 r:=
 mEnt (fd:=Tryz.f72) (body:=B) (V:=W) (res:=res) <|
 mCal 6 h (fun _ h=>h) fun r1 _ h=>
 mRet 3 h
end slices_Contains_sapi_Set_api_Set
namespace refute_chase_1
noncomputable def B:Code:=(Tryz.f71.body).getD .skip
def W:List Nat:=[0,1,3,6,1000001]
def res (r:Bool×List Int):D×List D:=(.lit (.bool r.1),[.box [.own (r.2.map (eI .u32))]])
def C (x0:Int) (k1_0:List Int) (r:Bool×List Int):Prop:=Ret env 71 [.lit (.int .u32 x0),.box [.own (k1_0.map (eI .u32))]] (res r).1 (res r).2
theorem enter (x0:Int) (k1_0:List Int) (φ:Bool×List Int→Prop) (h :
 ∃ r1:Bool,slices_Contains_sapi_Set_api_Set.C k1_0 x0 r1 ∧
 (if r1=true then
 φ ((false,k1_0))
 else
 (k1_0.length+1)*4≤140737488355328 ∧
 φ ((true,(k1_0++[x0]))))):∃ r,φ r∧C x0 k1_0 r:=
 mEnt (fd:=Tryz.f71) (body:=B) (V:=W) (res:=res) <|
 mCalB 6 h (fun _ h=>h) (hr:=by exact (pr_snap (snap_ow (s:=1000001) (ps:=[(0,0)]) (l:=k1_0) (e:=(eI .u32)) (e':=(eI .u32)) (fun _=>rfl) (by kernel_rfl)) (pr_k pr_nil))) (fun _ h=>
 mRet 5 h) fun _ h=>
 mApp 7 (eI .u32) k1_0 ([x0]) h fun h=>
 mRet 5 h
end refute_chase_1
namespace refute_chase
noncomputable def B:Code:=(Tryz.f34.body).getD .skip
def W:List Nat:=[0,1,2,3,8,9,10,11,13,14,16,18,19,21,23,24,26,28,38,39,40,41,42,45,46,47,48,51,52,53,54,63,75,77,78,79,80,90,91,92,93,102,103,104,105,109,110,111,112,132]
def res (r:List Int):D×List D:=(.own (r.map (eI .u32)),[])
def C (x0:Int) (x1:List api_FD) (x2:List api_MVD) (x3:Int) (r:List Int):Prop:=Ret env 34 [.lit (.int .i64 x0),.sl (x1.map enc_api_FD),.sl (x2.map enc_api_MVD),.lit (.int .u32 x3)] (res r).1 (res r).2
def L1 (x1:List api_FD) (x2:List api_MVD) (z0:List Int) (z1:Bool) (φ:List Int→Prop):Prop:=Pt env 34 W B [1,1,1,1,0,1,0] [(1,.sl (x1.map enc_api_FD)),(2,.sl (x2.map enc_api_MVD)),(9,.box [.own (z0.map (eI .u32))]),(10,.fn 71 [.alias 9 []]),(11,.lit (.bool z1))] (Lv env 34 Tryz.f34 4 res φ)
def L2 (x1:List api_FD) (x2:List api_MVD) (z0:List Int) (z1:Bool) (z2:Int) (φ:List Int→Prop):Prop:=Pt env 34 W B [1,1,1,1,0,1,0,0,1,0,1,0,1,0] [(1,.sl (x1.map enc_api_FD)),(2,.sl (x2.map enc_api_MVD)),(9,.box [.own (z0.map (eI .u32))]),(10,.fn 71 [.alias 9 []]),(11,.lit (.bool z1)),(39,.sl (x1.map enc_api_FD)),(40,.lit (.int .i64 ((x1.length:Int)))),(41,.lit (.int .i64 z2))] (Lv env 34 Tryz.f34 4 res φ)
def L3 (x1:List api_FD) (x2:List api_MVD) (z0:List Int) (z1:Bool) (a3:api_FD) (z2 z3:Int) (z4 z5:Int) (φ:List Int→Prop):Prop:=Pt env 34 W B [1,1,1,1,0,1,0,0,1,0,1,0,1,0,0,1,1,0,0,1,1,0,1,0] [(1,.sl (x1.map enc_api_FD)),(2,.sl (x2.map enc_api_MVD)),(9,.box [.own (z0.map (eI .u32))]),(10,.fn 71 [.alias 9 []]),(11,.lit (.bool z1)),(13,.box [.lit (.int .u32 a3.Lhs),.lit (.int .u32 a3.Rhs)]),(14,.lit (.int .u32 z2)),(39,.sl (x1.map enc_api_FD)),(40,.lit (.int .i64 ((x1.length:Int)))),(41,.lit (.int .i64 z3)),(45,.alias 9 [(0,0)]),(46,.lit (.int .i64 z4)),(47,.lit (.int .i64 z5))] (Lv env 34 Tryz.f34 4 res φ)
def L4 (x1:List api_FD) (x2:List api_MVD) (z0:List Int) (z1:Bool) (z2:Int) (φ:List Int→Prop):Prop:=Pt env 34 W B [1,1,1,1,0,1,0,0,1,0,1,1,1,0] [(1,.sl (x1.map enc_api_FD)),(2,.sl (x2.map enc_api_MVD)),(9,.box [.own (z0.map (eI .u32))]),(10,.fn 71 [.alias 9 []]),(11,.lit (.bool z1)),(90,.sl (x2.map enc_api_MVD)),(91,.lit (.int .i64 ((x2.length:Int)))),(92,.lit (.int .i64 z2))] (Lv env 34 Tryz.f34 4 res φ)
def L5 (x1:List api_FD) (x2:List api_MVD) (z0:List Int) (z1:Bool) (a3:api_FD) (z2 a5:Int) (z3 z4:Int) (z5 z6 z7:Int) (φ:List Int→Prop):Prop:=Pt env 34 W B [1,1,1,1,0,1,0,0,1,0,1,0,1,0,0,1,1,0,0,1,1,0,1,0,0,1,1,0,0,1,1,0] [(1,.sl (x1.map enc_api_FD)),(2,.sl (x2.map enc_api_MVD)),(9,.box [.own (z0.map (eI .u32))]),(10,.fn 71 [.alias 9 []]),(11,.lit (.bool z1)),(13,.box [.lit (.int .u32 a3.Lhs),.lit (.int .u32 a3.Rhs)]),(14,.lit (.int .u32 z2)),(16,.lit (.int .u32 a5)),(39,.sl (x1.map enc_api_FD)),(40,.lit (.int .i64 ((x1.length:Int)))),(41,.lit (.int .i64 z3)),(45,.alias 9 [(0,0)]),(46,.lit (.int .i64 z4)),(47,.lit (.int .i64 z5)),(51,.alias 9 [(0,0)]),(52,.lit (.int .i64 z6)),(53,.lit (.int .i64 z7))] (Lv env 34 Tryz.f34 4 res φ)
def L9 (x1:List api_FD) (x2:List api_MVD) (z0:List Int) (z1:Bool) (z2:Int) (φ:List Int→Prop):Prop:=Pt env 34 W B [1,1,1,1,0,1,0,0,1,0,1,0,1,0,0,1,1,1] [(1,.sl (x1.map enc_api_FD)),(2,.sl (x2.map enc_api_MVD)),(9,.box [.own (z0.map (eI .u32))]),(10,.fn 71 [.alias 9 []]),(11,.lit (.bool z1)),(39,.sl (x1.map enc_api_FD)),(40,.lit (.int .i64 ((x1.length:Int)))),(41,.lit (.int .i64 z2))] (Lv env 34 Tryz.f34 4 res φ)
def L6 (x1:List api_FD) (x2:List api_MVD) (z0:List Int) (z1:Int) (z2:List Int) (z3 z4 z5:Int) (φ:List Int→Prop):Prop:=Pt env 34 W B [1,1,1,1,0,1,0,0,1,0,1,0,1,0,0,1,1,0,0,1,1,1,1,1,1,1,1,0] [(1,.sl (x1.map enc_api_FD)),(2,.sl (x2.map enc_api_MVD)),(9,.box [.own (z0.map (eI .u32))]),(10,.fn 71 [.alias 9 []]),(11,.lit (.bool true)),(14,.lit (.int .u32 z1)),(19,.own (z2.map (eI .u32))),(39,.sl (x1.map enc_api_FD)),(40,.lit (.int .i64 ((x1.length:Int)))),(41,.lit (.int .i64 z3)),(77,.alias 19 []),(78,.lit (.int .i64 z4)),(79,.lit (.int .i64 z5))] (Lv env 34 Tryz.f34 4 res φ)
def L7 (x1:List api_FD) (x2:List api_MVD) (z0:List Int) (z1:Bool) (a7:api_MVD) (z2:Int) (z3:List Int) (z4 z5:Int) (φ:List Int→Prop):Prop:=Pt env 34 W B [1,1,1,1,0,1,0,0,1,0,1,1,1,0,0,1,1,0,0,1,1,1,0] [(1,.sl (x1.map enc_api_FD)),(2,.sl (x2.map enc_api_MVD)),(9,.box [.own (z0.map (eI .u32))]),(10,.fn 71 [.alias 9 []]),(11,.lit (.bool z1)),(23,.box [.lit (.int .u32 a7.Lhs),.lit (.int .u32 a7.Rhs)]),(24,.lit (.int .u32 ((bOr .u32 a7.Lhs a7.Rhs)))),(90,.sl (x2.map enc_api_MVD)),(91,.lit (.int .i64 ((x2.length:Int)))),(92,.lit (.int .i64 z2)),(102,.own (z3.map (eI .u32))),(103,.lit (.int .i64 z4)),(104,.lit (.int .i64 z5))] (Lv env 34 Tryz.f34 4 res φ)
def L8 (x1:List api_FD) (x2:List api_MVD) (z0:List Int) (z1:Bool) (a3:api_FD) (z2 a5:Int) (z3 z4:Int) (z5 z6 z7:Int) (φ:List Int→Prop):Prop:=Pt env 34 W B [1,1,1,1,0,1,0,0,1,0,1,0,1,0,0,1,1,0,0,1,1,0,1,0,0,1,1,0,0,1,1,0,0,1,1,1] [(1,.sl (x1.map enc_api_FD)),(2,.sl (x2.map enc_api_MVD)),(9,.box [.own (z0.map (eI .u32))]),(10,.fn 71 [.alias 9 []]),(11,.lit (.bool z1)),(13,.box [.lit (.int .u32 a3.Lhs),.lit (.int .u32 a3.Rhs)]),(14,.lit (.int .u32 z2)),(16,.lit (.int .u32 a5)),(39,.sl (x1.map enc_api_FD)),(40,.lit (.int .i64 ((x1.length:Int)))),(41,.lit (.int .i64 z3)),(45,.alias 9 [(0,0)]),(46,.lit (.int .i64 z4)),(47,.lit (.int .i64 z5)),(51,.alias 9 [(0,0)]),(52,.lit (.int .i64 z6)),(53,.lit (.int .i64 z7))] (Lv env 34 Tryz.f34 4 res φ)
def L10 (x1:List api_FD) (x2:List api_MVD) (z0:List Int) (z1:Bool) (a7:api_MVD) (a15 z2:Int) (z3:List Int) (z4 z5:Int) (z6:List Int) (z7 z8:Int) (φ:List Int→Prop):Prop:=Pt env 34 W B [1,1,1,1,0,1,0,0,1,0,1,1,1,0,0,1,1,0,0,1,1,1,0,0,1,1,0,0,1,1,0] [(1,.sl (x1.map enc_api_FD)),(2,.sl (x2.map enc_api_MVD)),(9,.box [.own (z0.map (eI .u32))]),(10,.fn 71 [.alias 9 []]),(11,.lit (.bool z1)),(23,.box [.lit (.int .u32 a7.Lhs),.lit (.int .u32 a7.Rhs)]),(24,.lit (.int .u32 ((bOr .u32 a7.Lhs a7.Rhs)))),(26,.lit (.int .u32 a15)),(90,.sl (x2.map enc_api_MVD)),(91,.lit (.int .i64 ((x2.length:Int)))),(92,.lit (.int .i64 z2)),(102,.own (z3.map (eI .u32))),(103,.lit (.int .i64 z4)),(104,.lit (.int .i64 z5)),(109,.own (z6.map (eI .u32))),(110,.lit (.int .i64 z7)),(111,.lit (.int .i64 z8))] (Lv env 34 Tryz.f34 4 res φ)
def L11 (x1:List api_FD) (x2:List api_MVD) (z0:List Int) (z1:Bool) (a7:api_MVD) (a15 z2:Int) (z3:List Int) (z4 z5:Int) (z6:List Int) (z7 z8:Int) (φ:List Int→Prop):Prop:=Pt env 34 W B [1,1,1,1,0,1,0,0,1,0,1,1,1,0,0,1,1,0,0,1,1,1,0,0,1,1,0,0,1,1,0,0,1,1,1] [(1,.sl (x1.map enc_api_FD)),(2,.sl (x2.map enc_api_MVD)),(9,.box [.own (z0.map (eI .u32))]),(10,.fn 71 [.alias 9 []]),(11,.lit (.bool z1)),(23,.box [.lit (.int .u32 a7.Lhs),.lit (.int .u32 a7.Rhs)]),(24,.lit (.int .u32 ((bOr .u32 a7.Lhs a7.Rhs)))),(26,.lit (.int .u32 a15)),(90,.sl (x2.map enc_api_MVD)),(91,.lit (.int .i64 ((x2.length:Int)))),(92,.lit (.int .i64 z2)),(102,.own (z3.map (eI .u32))),(103,.lit (.int .i64 z4)),(104,.lit (.int .i64 z5)),(109,.own (z6.map (eI .u32))),(110,.lit (.int .i64 z7)),(111,.lit (.int .i64 z8))] (Lv env 34 Tryz.f34 4 res φ)
theorem L1_step (x1:List api_FD) (x2:List api_MVD) (z0:List Int) (z1:Bool) (φ:List Int→Prop) (h :
 (if z1=true then
 refute_chase.L2 x1 x2 z0 false 0 φ
 else
 φ z0)):L1 x1 x2 z0 z1 φ:=
 mIn <|
 mAsk 2 h id fls (fun h=>
 mLen 8 enc_api_FD x1 <|
 mFin 2 h) fun h=>
 mRet 7 h
theorem L2_step (x1:List api_FD) (x2:List api_MVD) (z0:List Int) (z1:Bool) (z2:Int) (φ:List Int→Prop) (h :
 (if z2<(x1.length:Int) then
 ∃ a3,lget x1 z2=some a3 ∧
 refute_chase.L3 x1 x2 z0 z1 a3 0 z2 ((z0.length:Int)) 0 φ
 else
 refute_chase.L4 x1 x2 z0 z1 0 φ)):L2 x1 x2 z0 z1 z2 φ:=
 mIn <|
 mAsk 2 h dT dF (fun h=>
 mIx 4 enc_api_FD h fun a3 h4 h=>
 mLen 9 (eI .u32) z0 <|
 mFin 2 h) fun h=>
 mLen 5 enc_api_MVD x2 <|
 mFin 2 h
theorem L3_step (x1:List api_FD) (x2:List api_MVD) (z0:List Int) (z1:Bool) (a3:api_FD) (z2 z3:Int) (z4 z5:Int) (φ:List Int→Prop) (h :
 (if z5<z4 then
 ∃ a5,lget z0 z5=some a5 ∧
 refute_chase.L5 x1 x2 z0 z1 a3 z2 a5 z3 z4 z5 ((z0.length:Int)) 0 φ
 else
 (if z2=0 then
 refute_chase.L9 x1 x2 z0 z1 z3 φ
 else
 refute_chase.L6 x1 x2 ([]) z2 z0 z3 ((z0.length:Int)) 0 φ))):L3 x1 x2 z0 z1 a3 z2 z3 z4 z5 φ:=
 mIn <|
 mAsk 2 h dT dF (fun h=>
 mIy 4 (eI .u32) h fun a5 h6 h=>
 mLd 0 (eI .u32) h6 <|
 mLen 4 (eI .u32) z0 <|
 mFin 2 h) fun h=>
 mAsk 5 h beq_t beq_f (fun h=>
 mFin 3 h) fun h=>
 mLen 15 (eI .u32) z0 <|
 mFin 2 h
theorem L4_step (x1:List api_FD) (x2:List api_MVD) (z0:List Int) (z1:Bool) (z2:Int) (φ:List Int→Prop) (h :
 (if z2<(x2.length:Int) then
 ∃ a7,lget x2 z2=some a7 ∧
 z0.length*4≤140737488355328 ∧
 refute_chase.L7 x1 x2 z0 z1 a7 z2 z0 ((z0.length:Int)) 0 φ
 else
 refute_chase.L1 x1 x2 z0 z1 φ)):L4 x1 x2 z0 z1 z2 φ:=
 mIn <|
 mAsk 2 h dT dF (fun h=>
 mIx 4 enc_api_MVD h fun a7 h8 h=>
 h.elim fun h9 h=>
 mCalP 14 (show Ret env 73 [.sl (z0.map (eI .u32))] (.own (z0.map (eI .u32))) [] from ret_clone (k:=1) (b:=4) (e:=(eI .u32)) (l:=z0) (by kernel_rfl) (fun _=>rfl) h9) (hr:=by exact (pr_snap (snap_ow (s:=9) (ps:=[(0,0)]) (l:=z0) (e:=(eI .u32)) (e':=(eI .u32)) (fun _=>rfl) (by kernel_rfl)) pr_nil)) (hf:=(clF_flat (flat_ow (e:=(eI .u32)) (fun _=>rfl)) rfl)) <|
 mLen 0 (eI .u32) z0 <|
 mFin 2 h) fun h=>
 mFin 3 h
theorem L5_step (x1:List api_FD) (x2:List api_MVD) (z0:List Int) (z1:Bool) (a3:api_FD) (z2 a5:Int) (z3 z4:Int) (z5 z6 z7:Int) (φ:List Int→Prop) (h :
 (if z7<z6 then
 ∃ a10,lget z0 z7=some a10 ∧
 (if (bAnd .u32 (bXor .u32 a5 a10) a3.Lhs)=0 then
 refute_chase.L8 x1 x2 z0 z1 a3 ((bOr .u32 z2 (bAnd .u32 (bXor .u32 a5 a10) a3.Rhs))) a5 z3 z4 z5 z6 z7 φ
 else
 refute_chase.L8 x1 x2 z0 z1 a3 z2 a5 z3 z4 z5 z6 z7 φ)
 else
 refute_chase.L3 x1 x2 z0 z1 a3 z2 z3 z4 ((IntKind.wrap .i64 (z5+1))) φ)):L5 x1 x2 z0 z1 a3 z2 a5 z3 z4 z5 z6 z7 φ:=
 mIn <|
 mAsk 2 h dT dF (fun h=>
 mIy 4 (eI .u32) h fun a10 h11 h=>
 mLd 0 (eI .u32) h11 <|
 mAsk 9 h beq_t beq_f (fun h=>
 mFin 13 h) fun h=>
 mFin 3 h) fun h=>
 mFin 7 h
theorem L9_step (x1:List api_FD) (x2:List api_MVD) (z0:List Int) (z1:Bool) (z2:Int) (φ:List Int→Prop) (h :
 refute_chase.L2 x1 x2 z0 z1 ((IntKind.wrap .i64 (z2+1))) φ):L9 x1 x2 z0 z1 z2 φ:=
 mIn <|
 mFin 4 h
theorem L6_step (x1:List api_FD) (x2:List api_MVD) (z0:List Int) (z1:Int) (z2:List Int) (z3 z4 z5:Int) (φ:List Int→Prop) (h :
 (if z5<z4 then
 ∃ a12,lget z2 z5=some a12 ∧
 ∃ r14:Bool×List Int,refute_chase_1.C ((bAndNot .u32 a12 z1)) z0 r14 ∧
 refute_chase.L6 x1 x2 r14.2 z1 z2 z3 z4 ((IntKind.wrap .i64 (z5+1))) φ
 else
 refute_chase.L9 x1 x2 z0 true z3 φ)):L6 x1 x2 z0 z1 z2 z3 z4 z5 φ:=
 mIn <|
 mAsk 2 h dT dF (fun h=>
 mIy 4 (eI .u32) h fun a12 h13 h=>
 mLd 0 (eI .u32) h13 <|
 mCal 7 h (fun _ h=>h) fun r14 _ h=>
 mFin 5 h) fun h=>
 mFin 3 h
theorem L7_step (x1:List api_FD) (x2:List api_MVD) (z0:List Int) (z1:Bool) (a7:api_MVD) (z2:Int) (z3:List Int) (z4 z5:Int) (φ:List Int→Prop) (h :
 (if z5<z4 then
 ∃ a15,lget z3 z5=some a15 ∧
 z0.length*4≤140737488355328 ∧
 refute_chase.L10 x1 x2 z0 z1 a7 a15 z2 z3 z4 z5 z0 ((z0.length:Int)) 0 φ
 else
 refute_chase.L4 x1 x2 z0 z1 ((IntKind.wrap .i64 (z2+1))) φ)):L7 x1 x2 z0 z1 a7 z2 z3 z4 z5 φ:=
 mIn <|
 mAsk 2 h dT dF (fun h=>
 mIy 4 (eI .u32) h fun a15 h16 h=>
 mLd 0 (eI .u32) h16 <|
 h.elim fun h17 h=>
 mCalP 4 (show Ret env 73 [.sl (z0.map (eI .u32))] (.own (z0.map (eI .u32))) [] from ret_clone (k:=1) (b:=4) (e:=(eI .u32)) (l:=z0) (by kernel_rfl) (fun _=>rfl) h17) (hr:=by exact (pr_snap (snap_ow (s:=9) (ps:=[(0,0)]) (l:=z0) (e:=(eI .u32)) (e':=(eI .u32)) (fun _=>rfl) (by kernel_rfl)) pr_nil)) (hf:=(clF_flat (flat_ow (e:=(eI .u32)) (fun _=>rfl)) rfl)) <|
 mLen 0 (eI .u32) z0 <|
 mFin 2 h) fun h=>
 mFin 7 h
theorem L8_step (x1:List api_FD) (x2:List api_MVD) (z0:List Int) (z1:Bool) (a3:api_FD) (z2 a5:Int) (z3 z4:Int) (z5 z6 z7:Int) (φ:List Int→Prop) (h :
 refute_chase.L5 x1 x2 z0 z1 a3 z2 a5 z3 z4 z5 z6 ((IntKind.wrap .i64 (z7+1))) φ):L8 x1 x2 z0 z1 a3 z2 a5 z3 z4 z5 z6 z7 φ:=
 mIn <|
 mFin 4 h
theorem L10_step (x1:List api_FD) (x2:List api_MVD) (z0:List Int) (z1:Bool) (a7:api_MVD) (a15 z2:Int) (z3:List Int) (z4 z5:Int) (z6:List Int) (z7 z8:Int) (φ:List Int→Prop) (h :
 (if z8<z7 then
 ∃ a18,lget z6 z8=some a18 ∧
 (if (bAnd .u32 (bXor .u32 a15 a18) a7.Lhs)=0 then
 ∃ r20:Bool×List Int,refute_chase_1.C ((bOr .u32 (bAnd .u32 a15 (bOr .u32 a7.Lhs a7.Rhs)) (bAndNot .u32 a18 (bOr .u32 a7.Lhs a7.Rhs)))) z0 r20 ∧
 (if r20.1=true then
 refute_chase.L11 x1 x2 r20.2 true a7 a15 z2 z3 z4 z5 z6 z7 z8 φ
 else
 refute_chase.L11 x1 x2 r20.2 z1 a7 a15 z2 z3 z4 z5 z6 z7 z8 φ)
 else
 refute_chase.L11 x1 x2 z0 z1 a7 a15 z2 z3 z4 z5 z6 z7 z8 φ)
 else
 refute_chase.L7 x1 x2 z0 z1 a7 z2 z3 z4 ((IntKind.wrap .i64 (z5+1))) φ)):L10 x1 x2 z0 z1 a7 a15 z2 z3 z4 z5 z6 z7 z8 φ:=
 mIn <|
 mAsk 2 h dT dF (fun h=>
 mIy 4 (eI .u32) h fun a18 h19 h=>
 mLd 0 (eI .u32) h19 <|
 mAsk 9 h beq_t beq_f (fun h=>
 mCal 9 h (fun _ h=>h) fun r20 _ h=>
 mAsk 0 h id fls (fun h=>
 mFin 5 h) fun h=>
 mFin 3 h) fun h=>
 mFin 14 h) fun h=>
 mFin 7 h
theorem L11_step (x1:List api_FD) (x2:List api_MVD) (z0:List Int) (z1:Bool) (a7:api_MVD) (a15 z2:Int) (z3:List Int) (z4 z5:Int) (z6:List Int) (z7 z8:Int) (φ:List Int→Prop) (h :
 refute_chase.L10 x1 x2 z0 z1 a7 a15 z2 z3 z4 z5 z6 z7 ((IntKind.wrap .i64 (z8+1))) φ):L11 x1 x2 z0 z1 a7 a15 z2 z3 z4 z5 z6 z7 z8 φ:=
 mIn <|
 mFin 4 h
theorem enter (x0:Int) (x1:List api_FD) (x2:List api_MVD) (x3:Int) (φ:List Int→Prop) (h :
 0≤x0 ∧
 ∃ r2:Bool×List Int,refute_chase_1.C ((bAndNot .u32 (IntKind.wrap .u32 ((shlw .u32 1 x0)-1)) x3)) ([0]) r2 ∧
 refute_chase.L1 x1 x2 r2.2 true φ):∃ r,φ r∧C x0 x1 x2 x3 r:=
 mEnt (fd:=Tryz.f34) (body:=B) (V:=W) (res:=res) <|
 h.elim fun h1 h=>
 mBi 15 (bin_shl (t:=34) (q:=.u32) (q':=.i64) (i1:=1) h1) <|
 mCal 3 h (fun _ h=>h) fun r2 _ h=>
 mFin 4 h
end refute_chase
namespace refute_Mixed
noncomputable def B:Code:=(Tryz.f11.body).getD .skip
def W:List Nat:=[0,1,2,3,7,8,9,10,11,12,22,33]
def res (r:api_Table×Int):D×List D:=(.tup [.agg [.lit (.string r.1.Name),.own (r.1.Attrs.map eS),.own (r.1.Rows.map enc_api_Row)],.lit (.int .i64 r.2)],[])
def C (x0:Int) (x1:List api_FD) (x2:List api_MVD) (x3:api_FD) (r:api_Table×Int):Prop:=Ret env 11 [.lit (.int .i64 x0),.sl (x1.map enc_api_FD),.sl (x2.map enc_api_MVD),.agg [.lit (.int .u32 x3.Lhs),.lit (.int .u32 x3.Rhs)]] (res r).1 (res r).2
theorem enter (x0:Int) (x1:List api_FD) (x2:List api_MVD) (x3:api_FD) (φ:api_Table×Int→Prop) (h :
 ∃ r1:Int,refute_limits.C x0 x1 x2 x3.Lhs x3.Rhs r1 ∧
 (if r1=0 then
 ∃ r2:Bool×Int,basis_ImpliesFD.C x0 x1 x2 x3 r2 ∧
 (if r2.1=true then
 φ (((⟨(⟨#[]⟩:ByteArray),[],[]⟩:api_Table),10))
 else
 ∃ r3:List Int,refute_chase.C x0 x1 x2 x3.Lhs r3 ∧
 ∃ r4:api_Table,refute_build.C x0 r3 r4 ∧
 φ ((r4,0)))
 else
 φ (((⟨(⟨#[]⟩:ByteArray),[],[]⟩:api_Table),r1)))):∃ r,φ r∧C x0 x1 x2 x3 r:=
 mEnt (fd:=Tryz.f11) (body:=B) (V:=W) (res:=res) <|
 mCal 13 h (fun _ h=>h) fun r1 _ h=>
 mAskN 4 h bne_t bne_f (fun h=>
 mRet 8 h) fun h=>
 mCal 8 h (fun _ h=>h) (hf:=(fun _=>clF_flat (flat_tup (flts_cons rfl (flts_cons rfl flts_nil))) rfl)) fun r2 _ h=>
 mAsk 7 h id fls (fun h=>
 mRet 7 h) fun h=>
 mCal 10 h (fun _ h=>h) (hf:=(fun _=>clF_flat (flat_ow (e:=(eI .u32)) (fun _=>rfl)) rfl)) fun r3 _ h=>
 mCal 0 h (fun _ h=>h) (hr:=by exact (pr_k (pr_snap (snap_ow (s:=41) (ps:=[]) (l:=r3) (e:=(eI .u32)) (e':=(eI .u32)) (fun _=>rfl) (by kernel_rfl)) pr_nil))) (hf:=(fun _=>clF_flat (flat_agg (flts_cons rfl (flts_cons (flat_ow (e:=eS) (fun _=>rfl)) (flts_cons (flat_ow (e:=enc_api_Row) (fun _=>(flts_cons rfl (flts_cons (flat_ow (e:=enc_api_Value) (fun _=>rfl)) flts_nil)))) flts_nil)))) rfl)) fun r4 _ h=>
 mRet 3 h
end refute_Mixed
namespace drosslaw20_awake
noncomputable def B:Code:=(Tryz.f9.body).getD .skip
def W:List Nat:=[0,1,2,3,4,5,6,7,8,9,10]
def res (r:Bool):D×List D:=(.lit (.bool r),[])
def C  (r:Bool):Prop:=Ret env 9 [] (res r).1 (res r).2
theorem enter  (φ:Bool→Prop) (h :
 ∃ r1:api_Table×Int,refute_FD.C 3 ([(⟨1,2⟩:api_FD)]) ((⟨1,4⟩:api_FD)) r1 ∧
 ∃ r2:api_Table×Int,drossref20_FD.C 3 ([(⟨1,2⟩:api_FD)]) ((⟨1,4⟩:api_FD)) r2 ∧
 ∃ r3:api_Table×Int,refute_Mixed.C 3 ([]) ([(⟨1,2⟩:api_MVD)]) ((⟨1,2⟩:api_FD)) r3 ∧
 ∃ r4:api_Table×Int,refute_FD.C 3 ([(⟨1,2⟩:api_FD)]) ((⟨5,2⟩:api_FD)) r4 ∧
 (if r1.2=0 then
 ∃ r5:Bool,drossref03_Equal.C r1.1 r2.1 r5 ∧
 (if r5=true then
 (if (r2.1.Rows.length:Int)=2 then
 (if r3.2=0 then
 ∃ r6:Int,drossref03_Valid.C r3.1 r6 ∧
 (if r6=0 then
 (if (r3.1.Attrs.length:Int)=3 then
 ∃ r7:Bool,drossref20_Right.C r3.1 ([]) ([(⟨1,2⟩:api_MVD)]) r7 ∧
 (if r7=true then
 ∃ r8:Bool,drossref08_Satisfies.C r3.1 ((⟨1,2⟩:api_FD)) r8 ∧
 (if r8=true then
 φ false
 else
 φ ((r4.2 == 10)))
 else
 φ false)
 else
 φ false)
 else
 φ false)
 else
 φ false)
 else
 φ false)
 else
 φ false)
 else
 φ false)):∃ r,φ r∧C  r:=
 mEnt (fd:=Tryz.f9) (body:=B) (V:=W) (res:=res) <|
 mCal 11 h (fun _ h=>h) (hr:=by exact (pr_k (pr_snap (snap_ow (s:=1) (ps:=[]) (l:=[(⟨1,2⟩:api_FD)]) (e:=enc_api_FD) (e':=enc_api_FD) (fun _=>rfl) (by kernel_rfl)) (pr_k pr_nil)))) (hf:=(fun _=>clF_flat (flat_tup (flts_cons (flat_agg (flts_cons rfl (flts_cons (flat_ow (e:=eS) (fun _=>rfl)) (flts_cons (flat_ow (e:=enc_api_Row) (fun _=>(flts_cons rfl (flts_cons (flat_ow (e:=enc_api_Value) (fun _=>rfl)) flts_nil)))) flts_nil)))) (flts_cons rfl flts_nil))) rfl)) fun r1 _ h=>
 mCal 10 h (fun _ h=>h) (hr:=by exact (pr_k (pr_snap (snap_ow (s:=1) (ps:=[]) (l:=[(⟨1,2⟩:api_FD)]) (e:=enc_api_FD) (e':=enc_api_FD) (fun _=>rfl) (by kernel_rfl)) (pr_k pr_nil)))) (hf:=(fun _=>clF_flat (flat_tup (flts_cons (flat_agg (flts_cons rfl (flts_cons (flat_ow (e:=eS) (fun _=>rfl)) (flts_cons (flat_ow (e:=enc_api_Row) (fun _=>(flts_cons rfl (flts_cons (flat_ow (e:=enc_api_Value) (fun _=>rfl)) flts_nil)))) flts_nil)))) (flts_cons rfl flts_nil))) rfl)) fun r2 _ h=>
 mCal 15 h (fun _ h=>h) (hr:=by exact (pr_k (pr_k (pr_snap (snap_ow (s:=6) (ps:=[]) (l:=[(⟨1,2⟩:api_MVD)]) (e:=enc_api_MVD) (e':=enc_api_MVD) (fun _=>rfl) (by kernel_rfl)) (pr_k pr_nil))))) (hf:=(fun _=>clF_flat (flat_tup (flts_cons (flat_agg (flts_cons rfl (flts_cons (flat_ow (e:=eS) (fun _=>rfl)) (flts_cons (flat_ow (e:=enc_api_Row) (fun _=>(flts_cons rfl (flts_cons (flat_ow (e:=enc_api_Value) (fun _=>rfl)) flts_nil)))) flts_nil)))) (flts_cons rfl flts_nil))) rfl)) fun r3 _ h=>
 mCal 10 h (fun _ h=>h) (hr:=by exact (pr_k (pr_snap (snap_ow (s:=1) (ps:=[]) (l:=[(⟨1,2⟩:api_FD)]) (e:=enc_api_FD) (e':=enc_api_FD) (fun _=>rfl) (by kernel_rfl)) (pr_k pr_nil)))) (hf:=(fun _=>clF_flat (flat_tup (flts_cons (flat_agg (flts_cons rfl (flts_cons (flat_ow (e:=eS) (fun _=>rfl)) (flts_cons (flat_ow (e:=enc_api_Row) (fun _=>(flts_cons rfl (flts_cons (flat_ow (e:=enc_api_Value) (fun _=>rfl)) flts_nil)))) flts_nil)))) (flts_cons rfl flts_nil))) rfl)) fun r4 _ h=>
 mAsk 9 h beq_t beq_f (fun h=>
 mCalB 3 h (fun _ h=>h) (hr:=by exact (pr_snap (snap_agg (snaps_cons (d:=.lit (.string r1.1.Name)) (d':=.lit (.string r1.1.Name)) (by kernel_rfl) (snaps_cons (d:=.alias 2 [(0,1)]) (d':=.sl (r1.1.Attrs.map eS)) (snap_ow (s:=2) (ps:=[(0,1)]) (l:=r1.1.Attrs) (e:=eS) (e':=eS) (fun _=>rfl) (by kernel_rfl)) (snaps_cons (d:=.alias 2 [(0,2)]) (d':=.sl (r1.1.Rows.map enc_api_Row_2)) (snap_ow (s:=2) (ps:=[(0,2)]) (l:=r1.1.Rows) (e:=enc_api_Row) (e':=enc_api_Row_2) (fun x=>(fcs_cons rfl (fcs_cons (freeze_ow (e:=enc_api_Value) (e':=enc_api_Value) (fun _=>rfl) x.Values) fcs_nil))) (by kernel_rfl)) snaps_nil)))) (pr_snap (snap_agg (snaps_cons (d:=.lit (.string r2.1.Name)) (d':=.lit (.string r2.1.Name)) (by kernel_rfl) (snaps_cons (d:=.alias 4 [(0,1)]) (d':=.sl (r2.1.Attrs.map eS)) (snap_ow (s:=4) (ps:=[(0,1)]) (l:=r2.1.Attrs) (e:=eS) (e':=eS) (fun _=>rfl) (by kernel_rfl)) (snaps_cons (d:=.alias 4 [(0,2)]) (d':=.sl (r2.1.Rows.map enc_api_Row_2)) (snap_ow (s:=4) (ps:=[(0,2)]) (l:=r2.1.Rows) (e:=enc_api_Row) (e':=enc_api_Row_2) (fun x=>(fcs_cons rfl (fcs_cons (freeze_ow (e:=enc_api_Value) (e':=enc_api_Value) (fun _=>rfl) x.Values) fcs_nil))) (by kernel_rfl)) snaps_nil)))) pr_nil))) (fun _ h=>
 mLen 4 enc_api_Row r2.1.Rows <|
 mAsk 0 h beq_t beq_f (fun h=>
 mAsk 3 h beq_t beq_f (fun h=>
 mCal 3 h (fun _ h=>h) (hr:=by exact (pr_snap (snap_agg (snaps_cons (d:=.lit (.string r3.1.Name)) (d':=.lit (.string r3.1.Name)) (by kernel_rfl) (snaps_cons (d:=.alias 7 [(0,1)]) (d':=.sl (r3.1.Attrs.map eS)) (snap_ow (s:=7) (ps:=[(0,1)]) (l:=r3.1.Attrs) (e:=eS) (e':=eS) (fun _=>rfl) (by kernel_rfl)) (snaps_cons (d:=.alias 7 [(0,2)]) (d':=.sl (r3.1.Rows.map enc_api_Row_2)) (snap_ow (s:=7) (ps:=[(0,2)]) (l:=r3.1.Rows) (e:=enc_api_Row) (e':=enc_api_Row_2) (fun x=>(fcs_cons rfl (fcs_cons (freeze_ow (e:=enc_api_Value) (e':=enc_api_Value) (fun _=>rfl) x.Values) fcs_nil))) (by kernel_rfl)) snaps_nil)))) pr_nil)) fun r6 _ h=>
 mAsk 0 h beq_t beq_f (fun h=>
 mLen 4 eS r3.1.Attrs <|
 mAsk 0 h beq_t beq_f (fun h=>
 mCalB 4 h (fun _ h=>h) (hr:=by exact (pr_snap (snap_agg (snaps_cons (d:=.lit (.string r3.1.Name)) (d':=.lit (.string r3.1.Name)) (by kernel_rfl) (snaps_cons (d:=.alias 7 [(0,1)]) (d':=.sl (r3.1.Attrs.map eS)) (snap_ow (s:=7) (ps:=[(0,1)]) (l:=r3.1.Attrs) (e:=eS) (e':=eS) (fun _=>rfl) (by kernel_rfl)) (snaps_cons (d:=.alias 7 [(0,2)]) (d':=.sl (r3.1.Rows.map enc_api_Row_2)) (snap_ow (s:=7) (ps:=[(0,2)]) (l:=r3.1.Rows) (e:=enc_api_Row) (e':=enc_api_Row_2) (fun x=>(fcs_cons rfl (fcs_cons (freeze_ow (e:=enc_api_Value) (e':=enc_api_Value) (fun _=>rfl) x.Values) fcs_nil))) (by kernel_rfl)) snaps_nil)))) (pr_k (pr_snap (snap_ow (s:=6) (ps:=[]) (l:=[(⟨1,2⟩:api_MVD)]) (e:=enc_api_MVD) (e':=enc_api_MVD) (fun _=>rfl) (by kernel_rfl)) pr_nil)))) (fun _ h=>
 mCalB 4 h (fun _ h=>h) (hr:=by exact (pr_snap (snap_agg (snaps_cons (d:=.lit (.string r3.1.Name)) (d':=.lit (.string r3.1.Name)) (by kernel_rfl) (snaps_cons (d:=.alias 7 [(0,1)]) (d':=.sl (r3.1.Attrs.map eS)) (snap_ow (s:=7) (ps:=[(0,1)]) (l:=r3.1.Attrs) (e:=eS) (e':=eS) (fun _=>rfl) (by kernel_rfl)) (snaps_cons (d:=.alias 7 [(0,2)]) (d':=.sl (r3.1.Rows.map enc_api_Row_2)) (snap_ow (s:=7) (ps:=[(0,2)]) (l:=r3.1.Rows) (e:=enc_api_Row) (e':=enc_api_Row_2) (fun x=>(fcs_cons rfl (fcs_cons (freeze_ow (e:=enc_api_Value) (e':=enc_api_Value) (fun _=>rfl) x.Values) fcs_nil))) (by kernel_rfl)) snaps_nil)))) (pr_k pr_nil))) (fun _ h=>
 mRet 8 h) fun _ h=>
 mRet 8 h) fun _ h=>
 mRet 13 h) fun h=>
 mRet 18 h) fun h=>
 mRet 24 h) fun h=>
 mRet 29 h) fun h=>
 mRet 33 h) fun _ h=>
 mRet 39 h) fun h=>
 mRet 43 h
end drosslaw20_awake
end Go.Own
namespace Go.Own
set_option maxRecDepth 1000000
def exV (k:Int):api_Value:=⟨1,k,⟨#[]⟩⟩
def exT (rows:List api_Row):api_Table:=⟨⟨#[116]⟩,[⟨#[97]⟩,⟨#[98]⟩,⟨#[99]⟩],rows⟩
def exA:api_Table:=exT [⟨1,[exV 0,exV 0,exV 0]⟩,⟨2,[exV 0,exV 0,exV 1]⟩]
theorem ex20a:refute_FD.C 3 [⟨1,2⟩] ⟨1,4⟩ (exA,0):=Ret.of (n:=300) (by kernel_rfl)
theorem ex20b:drossref20_FD.C 3 [⟨1,2⟩] ⟨1,4⟩ (exA,0):=Ret.of (n:=300) (by kernel_rfl)
theorem ex20d:refute_FD.C 3 [⟨1,2⟩] ⟨5,2⟩ (⟨⟨#[]⟩,[],[]⟩,10):=Ret.of (n:=300) (by kernel_rfl)
theorem ex20e:drossref03_Equal.C exA exA true:=Ret.of (n:=300) (by kernel_rfl)
theorem ite_in {c a b:Prop} [Decidable c] (h:c) (k:a):if c then a else b:=by rwa [if_pos h]
theorem ite_out {c a b:Prop} [Decidable c] (h:¬ c) (k:b):if c then a else b:=by rwa [if_neg h]
end Go.Own
namespace Go.Own
open Go.Proofs D
set_option maxRecDepth 100000
set_option maxHeartbeats 4000000
namespace drosslaw20_sets
noncomputable def B:Code:=(Tryz.f10.body).getD .skip
def W:List Nat:=[0,1,3,4,5,6]
def res (r:Int×Int):D×List D:=(.tup [.lit (.int .u32 r.1),.lit (.int .u32 r.2)],[])
def C (x0:Int) (x1:(Int×Int)) (r:Int×Int):Prop:=Ret env 10 [.lit (.int .i64 x0),.agg [.lit (.int .u8 x1.1),.lit (.int .u8 x1.2)]] (res r).1 (res r).2
theorem enter (x0:Int) (x1:(Int×Int)) (φ:Int×Int→Prop) (h :
 ∃ r1:Int,drossref02_Full.C x0 r1 ∧
 φ (((bAnd .u32 (IntKind.wrap .u32 x1.1) r1),(bAnd .u32 (IntKind.wrap .u32 x1.2) r1)))):∃ r,φ r∧C x0 x1 r:=
 mEnt (fd:=Tryz.f10) (body:=B) (V:=W) (res:=res) <|
 mCal 7 h (fun _ h=>h) fun r1 _ h=>
 mRet 16 h
end drosslaw20_sets
namespace drosslaw20_RefuteMixed
noncomputable def B:Code:=(Tryz.f3.body).getD .skip
def W:List Nat:=[0,1,2,3,4,5,6,7,8,9,10,11,12,25,49]
def res (r:Bool):D×List D:=(.lit (.bool r),[])
def C (x0:drossref13_Mixed) (x1:(Int×Int)) (r:Bool):Prop:=Ret env 3 [.agg [.lit (.int .u8 x0.D.N),.sl (x0.D.L.map enc_drossref09_Dep),.sl (x0.M.map enc_drossref09_Dep)],.agg [.lit (.int .u8 x1.1),.lit (.int .u8 x1.2)]] (res r).1 (res r).2
def L1  (φ:Bool→Prop):Prop:=Pt env 3 W B [1,1,0,1,0,0] [] (Lv env 3 Tryz.f3 2 res φ)
theorem L1_step  (φ:Bool→Prop) (h :
 ∃ r20:Bool,drosslaw20_awake.C  r20 ∧
 φ r20):L1  φ:=
 mIn <|
 mCal 1 h (fun _ h=>h) fun r20 _ h=>
 mRet 2 h
theorem enter (x0:drossref13_Mixed) (x1:(Int×Int)) (φ:Bool→Prop) (h :
 ∃ r11:Int×List api_FD×List api_MVD×Bool,drossref13_Of.C x0 r11 ∧
 ∃ r12:Bool,drosslaw20_awake.C  r12 ∧
 (if r12=true then
 (if r11.2.2.2=true then
 ∃ r13:Int×Int,drosslaw20_sets.C r11.1 x1 r13 ∧
 ∃ r14:api_Table×Int,refute_Mixed.C r11.1 r11.2.1 r11.2.2.1 ((⟨r13.1,r13.2⟩:api_FD)) r14 ∧
 ∃ r15:Int,drossref13_Close.C r11.1 r11.2.1 r11.2.2.1 r13.1 r15 ∧
 ∃ r16:Bool,drossref02_Sub.C r13.2 r15 r16 ∧
 (if r16=true then
 (if r14.2=10 then
 φ (((IntKind.wrap .i64 ((r14.1.Attrs.length:Int)+(r14.1.Rows.length:Int))) == 0))
 else
 φ false)
 else
 (if r14.2=0 then
 ∃ r17:Int,drossref03_Valid.C r14.1 r17 ∧
 (if r17=0 then
 (if (r14.1.Attrs.length:Int)=r11.1 then
 ∃ r18:Bool,drossref20_Right.C r14.1 r11.2.1 r11.2.2.1 r18 ∧
 (if r18=true then
 ∃ r19:Bool,drossref08_Satisfies.C r14.1 ((⟨r13.1,r13.2⟩:api_FD)) r19 ∧
 φ ((not r19))
 else
 φ false)
 else
 φ false)
 else
 φ false)
 else
 φ false))
 else
 drosslaw20_RefuteMixed.L1  φ)
 else
 drosslaw20_RefuteMixed.L1  φ)):∃ r,φ r∧C x0 x1 r:=
 mEnt (fd:=Tryz.f3) (body:=B) (V:=W) (res:=res) <|
 mCal 7 h (fun _ h=>h) (hf:=(fun _=>clF_both)) fun r11 _ h=>
 mCalB 11 h (fun _ h=>h) (fun _ h=>
 mAsk 2 h id fls (fun h=>
 mCal 8 h (fun _ h=>h) (hf:=(fun _=>clF_flat (flat_tup (flts_cons rfl (flts_cons rfl flts_nil))) rfl)) fun r13 _ h=>
 mCalE 13 h (fun _ h=>h) (fun (r14:api_Table×Int)=>cold_tup rfl (fcs_cons (freeze_agg (fcs_cons rfl (fcs_cons (freeze_ow (e:=eS) (e':=eS) (fun _=>rfl) r14.1.Attrs) (fcs_cons (freeze_ow (e:=enc_api_Row) (e':=enc_api_Row_2) (fun x=>(fcs_cons rfl (fcs_cons (freeze_ow (e:=enc_api_Value) (e':=enc_api_Value) (fun _=>rfl) x.Values) fcs_nil))) r14.1.Rows) fcs_nil)))) (fcs_cons rfl fcs_nil))) (hf:=(fun _=>clF_flat (flat_tup (flts_cons (flat_agg (flts_cons rfl (flts_cons (flat_ow (e:=eS) (fun _=>rfl)) (flts_cons (flat_ow (e:=enc_api_Row) (fun _=>(flts_cons rfl (flts_cons (flat_ow (e:=enc_api_Value) (fun _=>rfl)) flts_nil)))) flts_nil)))) (flts_cons rfl flts_nil))) rfl)) fun r14 _ h=>
 mCal 13 h (fun _ h=>h) fun r15 _ h=>
 mCalB 0 h (fun _ h=>h) (fun _ h=>
 mAsk 4 h beq_t beq_f (fun h=>
 mLen 3 eS r14.1.Attrs <|
 mLen 2 enc_api_Row_2 r14.1.Rows <|
 mRet 5 h) fun h=>
 mRet 12 h) fun _ h=>
 mAsk 5 h beq_t beq_f (fun h=>
 mCal 2 h (fun _ h=>h) fun r17 _ h=>
 mAsk 0 h beq_t beq_f (fun h=>
 mLen 4 eS r14.1.Attrs <|
 mAsk 1 h beq_t beq_f (fun h=>
 mCalB 5 h (fun _ h=>h) (fun _ h=>
 mCal 6 h (fun _ h=>h) fun r19 _ h=>
 mRet 4 h) fun _ h=>
 mRet 11 h) fun h=>
 mRet 17 h) fun h=>
 mRet 24 h) fun h=>
 mRet 28 h) fun h=>
 mFin 4 h) fun _ h=>
 mFin 7 h
end drosslaw20_RefuteMixed
end Go.Own
