/- No conditions. -/
import Derived.Test.YtbmbbljdpnpmeaaGreatDoorBase5
import Derived.Test.YtbmbbljdpnpmeaaGreatDoorOwn25
set_option linter.all false
namespace Go.Own
open Go.Proofs D
set_option maxRecDepth 100000
set_option maxHeartbeats 4000000
namespace q52_
noncomputable def B:Code:=(Tryz.f53.body).getD .skip
def W:List Nat:=[0,2,3,4,11]
def res (r:Int):D×List D:=(.lit (.int .u32 r),[])
def C (x0 r:Int):Prop:=Ret env 53 [.lit (.int .i64 x0)] (res r).1 (res r).2
def L1 (x0 z0 z1:Int) (φ:Int->Prop):Prop:=Pt env 53 W B [1,1,0,1,0] [(0,.lit (.int .i64 x0)),(3,.lit (.int .u32 z0)),(4,.lit (.int .i64 z1))] (Lv env 53 Tryz.f53 1 res φ)
theorem L1_step (x0 z0 z1:Int) (φ:Int->Prop) (h :
 (if z1<x0 then
 (if z1<32 then
 0<=z1 /\
 q52_.L1 x0 ((bOr .u32 z0 (shlw .u32 1 z1))) ((IntKind.wrap .i64 (z1+1))) φ
 else
 φ z0)
 else
 φ z0)):L1 x0 z0 z1 φ:=
 mIn <|
 mAsk 4 h dT dF (fun h=>
 mAsk 2 h dT dF (fun h=>
 h.elim fun h1 h=>
 mBi 7 (Adt (t:=35) (q:=.u32) (q':=.i64) (i1:=1) h1) <|
 mFin 8 h) fun h=>
 mRet 8 h) fun h=>
 mRet 11 h
theorem enter (x0:Int) (φ:Int->Prop) (h :
 q52_.L1 x0 0 0 φ):∃ r,φ r/\C x0 r:=
 mEnt (fd:=Tryz.f53) (body:=B) (V:=W) (res:=res) <|
 mFin 9 h
end q52_
namespace q71_
noncomputable def B:Code:=(Tryz.f68.body).getD .skip
def W:List Nat:=[0,1,4,6,12,15,16,17,18,19,29]
def res (r:Int):D×List D:=(.lit (.int .i64 r),[])
def C (x0:Int) (x1:List api_FD) (r:Int):Prop:=Ret env 68 [.lit (.int .i64 x0),.sl (x1.map Aa1)] (res r).1 (res r).2
def L1 (x0:Int) (x1:List api_FD) (z0:Int) (φ:Int->Prop):Prop:=Pt env 68 W B [1,1,1,0,1,0] [(0,.lit (.int .i64 x0)),(1,.sl (x1.map Aa1)),(16,.sl (x1.map Aa1)),(17,.lit (.int .i64 ((x1.length:Int)))),(18,.lit (.int .i64 z0))] (Lv env 68 Tryz.f68 2 res φ)
theorem L1_step (x0:Int) (x1:List api_FD) (z0:Int) (φ:Int->Prop) (h :
 (if z0<(x1.length:Int) then
 ∃ a1,lget x1 z0=some a1 /\
 0<=x0 /\
 (if (shrw .u32 (bOr .u32 a1.Lhs a1.Rhs) x0)=0 then
 q71_.L1 x0 x1 ((IntKind.wrap .i64 (z0+1))) φ
 else
 φ 1)
 else
 φ 0)):L1 x0 x1 z0 φ:=
 mIn <|
 mAsk 2 h dT dF (fun h=>
 mIx 4 Aa1 h fun a1 h2 h=>
 h.elim fun h3 h=>
 mBi 11 (Ape (t:=35) (q:=.u32) (q':=.i64) (i1:=(bOr .u32 a1.Lhs a1.Rhs)) h3) <|
 Ab7 0 h Ab6 Ab5 (fun h=>
 mRet 5 h) fun h=>
 mFin 7 h) fun h=>
 mRet 6 h
theorem enter (x0:Int) (x1:List api_FD) (φ:Int->Prop) (h :
 (if x0<0 then
 φ 7
 else
 (if 16<x0 then
 φ 7
 else
 (if 64<(x1.length:Int) then
 φ 3
 else
 q71_.L1 x0 x1 0 φ)))):∃ r,φ r/\C x0 x1 r:=
 mEnt (fd:=Tryz.f68) (body:=B) (V:=W) (res:=res) <|
 mAsk 5 h dT dF (fun h=>
 mRet 9 h) fun h=>
 mAsk 2 h dT dF (fun h=>
 mRet 6 h) fun h=>
 mLen 6 Aa1 x1 <|
 mAsk 0 h dT dF (fun h=>
 mRet 5 h) fun h=>
 mLen 5 Aa1 x1 <|
 mFin 2 h
end q71_
namespace q31_
noncomputable def B:Code:=(Tryz.f125.body).getD .skip
def W:List Nat:=[0,2]
def res (r:Int):D×List D:=(.lit (.int .i64 r),[])
def C (x0 r:Int):Prop:=Ret env 125 [.lit (.int .u32 x0)] (res r).1 (res r).2
theorem enter (x0:Int) (φ:Int->Prop) (h :
 ∃ b1,((0:Int)<=(shrw .u32 x0 24)/\((⟨#[0,1,1,2,1,2,2,3,1,2,2,3,2,3,3,4,1,2,2,3,2,3,3,4,2,3,3,4,3,4,4,5,1,2,2,3,2,3,3,4,2,3,3,4,3,4,4,5,2,3,3,4,3,4,4,5,3,4,4,5,4,5,5,6,1,2,2,3,2,3,3,4,2,3,3,4,3,4,4,5,2,3,3,4,3,4,4,5,3,4,4,5,4,5,5,6,2,3,3,4,3,4,4,5,3,4,4,5,4,5,5,6,3,4,4,5,4,5,5,6,4,5,5,6,5,6,6,7,1,2,2,3,2,3,3,4,2,3,3,4,3,4,4,5,2,3,3,4,3,4,4,5,3,4,4,5,4,5,5,6,2,3,3,4,3,4,4,5,3,4,4,5,4,5,5,6,3,4,4,5,4,5,5,6,4,5,5,6,5,6,6,7,2,3,3,4,3,4,4,5,3,4,4,5,4,5,5,6,3,4,4,5,4,5,5,6,4,5,5,6,5,6,6,7,3,4,4,5,4,5,5,6,4,5,5,6,5,6,6,7,4,5,5,6,5,6,6,7,5,6,6,7,6,7,7,8]⟩:ByteArray))[((shrw .u32 x0 24)).toNat]? = some b1) /\
 ∃ b4,((0:Int)<=(bAnd .u32 (shrw .u32 x0 16) 255)/\((⟨#[0,1,1,2,1,2,2,3,1,2,2,3,2,3,3,4,1,2,2,3,2,3,3,4,2,3,3,4,3,4,4,5,1,2,2,3,2,3,3,4,2,3,3,4,3,4,4,5,2,3,3,4,3,4,4,5,3,4,4,5,4,5,5,6,1,2,2,3,2,3,3,4,2,3,3,4,3,4,4,5,2,3,3,4,3,4,4,5,3,4,4,5,4,5,5,6,2,3,3,4,3,4,4,5,3,4,4,5,4,5,5,6,3,4,4,5,4,5,5,6,4,5,5,6,5,6,6,7,1,2,2,3,2,3,3,4,2,3,3,4,3,4,4,5,2,3,3,4,3,4,4,5,3,4,4,5,4,5,5,6,2,3,3,4,3,4,4,5,3,4,4,5,4,5,5,6,3,4,4,5,4,5,5,6,4,5,5,6,5,6,6,7,2,3,3,4,3,4,4,5,3,4,4,5,4,5,5,6,3,4,4,5,4,5,5,6,4,5,5,6,5,6,6,7,3,4,4,5,4,5,5,6,4,5,5,6,5,6,6,7,4,5,5,6,5,6,6,7,5,6,6,7,6,7,7,8]⟩:ByteArray))[((bAnd .u32 (shrw .u32 x0 16) 255)).toNat]? = some b4) /\
 ∃ b7,((0:Int)<=(bAnd .u32 (shrw .u32 x0 8) 255)/\((⟨#[0,1,1,2,1,2,2,3,1,2,2,3,2,3,3,4,1,2,2,3,2,3,3,4,2,3,3,4,3,4,4,5,1,2,2,3,2,3,3,4,2,3,3,4,3,4,4,5,2,3,3,4,3,4,4,5,3,4,4,5,4,5,5,6,1,2,2,3,2,3,3,4,2,3,3,4,3,4,4,5,2,3,3,4,3,4,4,5,3,4,4,5,4,5,5,6,2,3,3,4,3,4,4,5,3,4,4,5,4,5,5,6,3,4,4,5,4,5,5,6,4,5,5,6,5,6,6,7,1,2,2,3,2,3,3,4,2,3,3,4,3,4,4,5,2,3,3,4,3,4,4,5,3,4,4,5,4,5,5,6,2,3,3,4,3,4,4,5,3,4,4,5,4,5,5,6,3,4,4,5,4,5,5,6,4,5,5,6,5,6,6,7,2,3,3,4,3,4,4,5,3,4,4,5,4,5,5,6,3,4,4,5,4,5,5,6,4,5,5,6,5,6,6,7,3,4,4,5,4,5,5,6,4,5,5,6,5,6,6,7,4,5,5,6,5,6,6,7,5,6,6,7,6,7,7,8]⟩:ByteArray))[((bAnd .u32 (shrw .u32 x0 8) 255)).toNat]? = some b7) /\
 ∃ b10,((0:Int)<=(bAnd .u32 x0 255)/\((⟨#[0,1,1,2,1,2,2,3,1,2,2,3,2,3,3,4,1,2,2,3,2,3,3,4,2,3,3,4,3,4,4,5,1,2,2,3,2,3,3,4,2,3,3,4,3,4,4,5,2,3,3,4,3,4,4,5,3,4,4,5,4,5,5,6,1,2,2,3,2,3,3,4,2,3,3,4,3,4,4,5,2,3,3,4,3,4,4,5,3,4,4,5,4,5,5,6,2,3,3,4,3,4,4,5,3,4,4,5,4,5,5,6,3,4,4,5,4,5,5,6,4,5,5,6,5,6,6,7,1,2,2,3,2,3,3,4,2,3,3,4,3,4,4,5,2,3,3,4,3,4,4,5,3,4,4,5,4,5,5,6,2,3,3,4,3,4,4,5,3,4,4,5,4,5,5,6,3,4,4,5,4,5,5,6,4,5,5,6,5,6,6,7,2,3,3,4,3,4,4,5,3,4,4,5,4,5,5,6,3,4,4,5,4,5,5,6,4,5,5,6,5,6,6,7,3,4,4,5,4,5,5,6,4,5,5,6,5,6,6,7,4,5,5,6,5,6,6,7,5,6,6,7,6,7,7,8]⟩:ByteArray))[((bAnd .u32 x0 255)).toNat]? = some b10) /\
 φ ((IntKind.wrap .i64 (IntKind.wrap .u8 ((IntKind.wrap .u8 ((IntKind.wrap .u8 ((u8i b1)+(u8i b4)))+(u8i b7)))+(u8i b10)))))):∃ r,φ r/\C x0 r:=
 mEnt (fd:=Tryz.f125) (body:=B) (V:=W) (res:=res) <|
 mSt 6 h fun b1 h=>
 mSt 3 h fun b4 h=>
 mSt 4 h fun b7 h=>
 mSt 3 h fun b10 h=>
 mRet 4 h
end q31_
namespace q79_
noncomputable def B:Code:=(Tryz.f57.body).getD .skip
def W:List Nat:=[0,2]
def res (r:Int):D×List D:=(.lit (.int .i64 r),[])
def C (x0 r:Int):Prop:=Ret env 57 [.lit (.int .u32 x0)] (res r).1 (res r).2
theorem enter (x0:Int) (φ:Int->Prop) (h :
 ∃ r1:Int,q31_.C x0 r1 /\
 φ r1):∃ r,φ r/\C x0 r:=
 mEnt (fd:=Tryz.f57) (body:=B) (V:=W) (res:=res) <|
 mCal 5 h (fun _ h=>h) fun r1 _ h=>
 mRet 2 h
end q79_
namespace q42_
noncomputable def B:Code:=(Tryz.f271.body).getD .skip
def W:List Nat:=[0,2]
def res (r:Bool):D×List D:=(.lit (.bool r),[])
def C (x0:Int) (r:Bool):Prop:=Ret env 271 [.lit (.int .u32 x0)] (res r).1 (res r).2
theorem enter (x0:Int) (φ:Bool->Prop) (h :
 φ ((x0 != x0))):∃ r,φ r/\C x0 r:=
 mEnt (fd:=Tryz.f271) (body:=B) (V:=W) (res:=res) <|
 mRet 9 h
end q42_
namespace q37_
noncomputable def B:Code:=(Tryz.f218.body).getD .skip
def W:List Nat:=[0,1,4,5,6,11,12,13,16,19]
def res (r:Int):D×List D:=(.lit (.int .i64 r),[])
def C (x0 x1 r:Int):Prop:=Ret env 218 [.lit (.int .u32 x0),.lit (.int .u32 x1)] (res r).1 (res r).2
theorem enter (x0 x1:Int) (φ:Int->Prop) (h :
 ∃ r1:Bool,q42_.C x0 r1 /\
 ∃ r2:Bool,q42_.C x1 r2 /\
 (if r1=true then
 (if r2=true then
 φ 0
 else
 φ ((-1)))
 else
 (if r2=true then
 φ 1
 else
 (if x0<x1 then
 φ ((-1))
 else
 (if x1<x0 then
 φ 1
 else
 φ 0))))):∃ r,φ r/\C x0 x1 r:=
 mEnt (fd:=Tryz.f218) (body:=B) (V:=W) (res:=res) <|
 mCal 5 h (fun _ h=>h) fun r1 _ h=>
 mCal 4 h (fun _ h=>h) fun r2 _ h=>
 mAsk 3 h id fls (fun h=>
 mAsk 3 h id fls (fun h=>
 mRet 5 h) fun h=>
 mRet 6 h) fun h=>
 mAsk 4 h id fls (fun h=>
 mRet 5 h) fun h=>
 mAsk 6 h dT dF (fun h=>
 mRet 5 h) fun h=>
 mAsk 6 h dT dF (fun h=>
 mRet 5 h) fun h=>
 mRet 6 h
end q37_
namespace q72_
noncomputable def B:Code:=(Tryz.f214.body).getD .skip
def W:List Nat:=[0,2]
def res (r:Bool):D×List D:=(.lit (.bool r),[])
def C (x0:Int) (r:Bool):Prop:=Ret env 214 [.lit (.int .i64 x0)] (res r).1 (res r).2
theorem enter (x0:Int) (φ:Bool->Prop) (h :
 φ ((x0 != x0))):∃ r,φ r/\C x0 r:=
 mEnt (fd:=Tryz.f214) (body:=B) (V:=W) (res:=res) <|
 mRet 9 h
end q72_
namespace q53_
noncomputable def B:Code:=(Tryz.f174.body).getD .skip
def W:List Nat:=[0,1,4,5,6,11,12,13,16,19]
def res (r:Int):D×List D:=(.lit (.int .i64 r),[])
def C (x0 x1 r:Int):Prop:=Ret env 174 [.lit (.int .i64 x0),.lit (.int .i64 x1)] (res r).1 (res r).2
theorem enter (x0 x1:Int) (φ:Int->Prop) (h :
 ∃ r1:Bool,q72_.C x0 r1 /\
 ∃ r2:Bool,q72_.C x1 r2 /\
 (if r1=true then
 (if r2=true then
 φ 0
 else
 φ ((-1)))
 else
 (if r2=true then
 φ 1
 else
 (if x0<x1 then
 φ ((-1))
 else
 (if x1<x0 then
 φ 1
 else
 φ 0))))):∃ r,φ r/\C x0 x1 r:=
 mEnt (fd:=Tryz.f174) (body:=B) (V:=W) (res:=res) <|
 mCal 5 h (fun _ h=>h) fun r1 _ h=>
 mCal 4 h (fun _ h=>h) fun r2 _ h=>
 mAsk 3 h id fls (fun h=>
 mAsk 3 h id fls (fun h=>
 mRet 5 h) fun h=>
 mRet 6 h) fun h=>
 mAsk 4 h id fls (fun h=>
 mRet 5 h) fun h=>
 mAsk 6 h dT dF (fun h=>
 mRet 5 h) fun h=>
 mAsk 6 h dT dF (fun h=>
 mRet 5 h) fun h=>
 mRet 6 h
end q53_
namespace q90_
noncomputable def B:Code:=(Tryz.f173.body).getD .skip
def W:List Nat:=[0,2,3,5,6,7,8,9,14]
def res (r:Int):D×List D:=(.lit (.int .i64 r),[])
def C (x0:List Int) (r:Int):Prop:=Ret env 173 [.sl (x0.map (eI .i64))] (res r).1 (res r).2
def L1 (x0:List Int) (z0:Int) (φ:Int->Prop):Prop:=Pt env 173 W B [1,1,0,1,0] [(0,.sl (x0.map (eI .i64))),(3,.lit (.int .i64 0)),(6,.sl (x0.map (eI .i64))),(7,.lit (.int .i64 ((x0.length:Int)))),(8,.lit (.int .i64 z0))] (Lv env 173 Tryz.f173 1 res φ)
theorem L1_step (x0:List Int) (z0:Int) (φ:Int->Prop) (h :
 (if z0<(x0.length:Int) then
 ∃ a1,lget x0 z0=some a1 /\
 (if a1=0 then
 q90_.L1 x0 ((IntKind.wrap .i64 (z0+1))) φ
 else
 φ a1)
 else
 φ 0)):L1 x0 z0 φ:=
 mIn <|
 mAsk 2 h dT dF (fun h=>
 mIx 4 (eI .i64) h fun a1 h2 h=>
 Ab7 6 h Ab6 Ab5 (fun h=>
 mRet 6 h) fun h=>
 mFin 7 h) fun h=>
 mRet 7 h
theorem enter (x0:List Int) (φ:Int->Prop) (h :
 q90_.L1 x0 0 φ):∃ r,φ r/\C x0 r:=
 mEnt (fd:=Tryz.f173) (body:=B) (V:=W) (res:=res) <|
 mLen 8 (eI .i64) x0 <|
 mFin 2 h
end q90_
namespace q54_
noncomputable def B:Code:=(Tryz.f179.body).getD .skip
def W:List Nat:=[0,1,4]
def res (r:Int):D×List D:=(.lit (.int .i64 r),[])
def C (x0 x1 r:Int):Prop:=Ret env 179 [.lit (.int .u32 x0),.lit (.int .u32 x1)] (res r).1 (res r).2
theorem enter (x0 x1:Int) (φ:Int->Prop) (h :
 ∃ r1:Int,q79_.C x0 r1 /\
 ∃ r2:Int,q79_.C x1 r2 /\
 ∃ r3:Int,q53_.C r1 r2 r3 /\
 ∃ r4:Int,q37_.C x0 x1 r4 /\
 ∃ r5:Int,q90_.C ([r3,r4]) r5 /\
 φ r5):∃ r,φ r/\C x0 x1 r:=
 mEnt (fd:=Tryz.f179) (body:=B) (V:=W) (res:=res) <|
 mCal 5 h (fun _ h=>h) fun r1 _ h=>
 mCal 1 h (fun _ h=>h) fun r2 _ h=>
 mCal 0 h (fun _ h=>h) fun r3 _ h=>
 mCal 2 h (fun _ h=>h) fun r4 _ h=>
 mCal 1 h (fun _ h=>h) (hr:=by exact (Acp (Ad6 (s:=13) (ps:=[]) (l:=[r3,r4]) (e:=(eI .i64)) (e':=(eI .i64)) (fun _=>rfl) (by kernel_rfl)) Ae0)) fun r5 _ h=>
 mRet 2 h
end q54_
namespace q7_
noncomputable def B:Code:=(Tryz.f263.body).getD .skip
def W:List Nat:=[0,1,2,3,8,9,14,34,1000000]
def res (r:List Int):D×List D:=(.tup [],[.own (r.map (eI .u32))])
def C (x1 x2:Int) (k0_0 r:List Int):Prop:=Ret env 263 [.own (k0_0.map (eI .u32)),.lit (.int .i64 x1),.lit (.int .i64 x2),.fn 179 []] (res r).1 (res r).2
def L1 (x1 x2 z0:Int) (k0_0:List Int) (φ:List Int->Prop):Prop:=Pt env 263 W B [1,0] [(0,.alias 1000000 []),(1,.lit (.int .i64 x1)),(2,.lit (.int .i64 x2)),(3,.fn 179 []),(8,.lit (.int .i64 z0)),(1000000,.own (k0_0.map (eI .u32)))] (Lv env 263 Tryz.f263 4 res φ)
def L2 (x1 x2:Int) (z0 z1:Int) (k0_0:List Int) (φ:List Int->Prop):Prop:=Pt env 263 W B [1,0,0,1,0,0,1,0] [(0,.alias 1000000 []),(1,.lit (.int .i64 x1)),(2,.lit (.int .i64 x2)),(3,.fn 179 []),(8,.lit (.int .i64 z0)),(9,.lit (.int .i64 z1)),(1000000,.own (k0_0.map (eI .u32)))] (Lv env 263 Tryz.f263 4 res φ)
def L3 (x1 x2 z0:Int) (k0_0:List Int) (φ:List Int->Prop):Prop:=Pt env 263 W B [1,0,0,1,1] [(0,.alias 1000000 []),(1,.lit (.int .i64 x1)),(2,.lit (.int .i64 x2)),(3,.fn 179 []),(8,.lit (.int .i64 z0)),(1000000,.own (k0_0.map (eI .u32)))] (Lv env 263 Tryz.f263 4 res φ)
theorem L1_step (x1 x2 z0:Int) (k0_0:List Int) (φ:List Int->Prop) (h :
 (if z0<x2 then
 q7_.L2 x1 x2 z0 z0 k0_0 φ
 else
 φ k0_0)):L1 x1 x2 z0 k0_0 φ:=
 mIn <|
 mAsk 4 h dT dF (fun h=>
 mFin 7 h) fun h=>
 mRet 2 h
theorem L2_step (x1 x2:Int) (z0 z1:Int) (k0_0:List Int) (φ:List Int->Prop) (h :
 (if x1<z1 then
 ∃ a1,lget k0_0 z1=some a1 /\
 ∃ a3,lget k0_0 ((IntKind.wrap .i64 (z1-1)))=some a3 /\
 ∃ r5:Int,q54_.C a1 a3 r5 /\
 (if r5<0 then
 ∃ a6,lget ((lset k0_0 z1 a3)) ((IntKind.wrap .i64 (z1-1)))=some a6 /\
 q7_.L2 x1 x2 z0 ((IntKind.wrap .i64 (z1-1))) ((lset (lset k0_0 z1 a3) (IntKind.wrap .i64 (z1-1)) a1)) φ
 else
 q7_.L3 x1 x2 z0 k0_0 φ)
 else
 q7_.L3 x1 x2 z0 k0_0 φ)):L2 x1 x2 z0 z1 k0_0 φ:=
 mIn <|
 mAsk 4 h dT dF (fun h=>
 mIy 4 (eI .u32) h fun a1 h2 h=>
 mLd 0 (eI .u32) h2 <|
 mIy 3 (eI .u32) h fun a3 h4 h=>
 mLd 0 (eI .u32) h4 <|
 mCal 0 h (fun _ h=>h) fun r5 _ h=>
 mAsk 0 h dT dF (fun h=>
 mIyf 13 (eI .u32) h4 <|
 mLd 0 (eI .u32) h4 <|
 mIyf 2 (eI .u32) h2 <|
 mLd 0 (eI .u32) h2 <|
 mIyf 0 (eI .u32) h2 <|
 Aeo 0 (eI .u32) a3 h2 <|
 mIy 0 (eI .u32) h fun a6 h7 h=>
 mSto 0 (eI .u32) a1 h7 <|
 mFin 6 h) fun h=>
 mFin 4 h) fun h=>
 mFin 17 h
theorem L3_step (x1 x2 z0:Int) (k0_0:List Int) (φ:List Int->Prop) (h :
 q7_.L1 x1 x2 ((IntKind.wrap .i64 (z0+1))) k0_0 φ):L3 x1 x2 z0 k0_0 φ:=
 mIn <|
 mFin 5 h
theorem enter (x1 x2:Int) (k0_0:List Int) (φ:List Int->Prop) (h :
 q7_.L1 x1 x2 ((IntKind.wrap .i64 (x1+1))) k0_0 φ):∃ r,φ r/\C x1 x2 k0_0 r:=
 mEnt (fd:=Tryz.f263) (body:=B) (V:=W) (res:=res) <|
 mFin 5 h
end q7_
namespace q18_
noncomputable def B:Code:=(Tryz.f293.body).getD .skip
def W:List Nat:=[0,1,2,3,4,10,11,18,40,58,1000000]
def res (r:List Int):D×List D:=(.tup [],[.own (r.map (eI .u32))])
def C (x1 x2 x3:Int) (k0_0 r:List Int):Prop:=Ret env 293 [.own (k0_0.map (eI .u32)),.lit (.int .i64 x1),.lit (.int .i64 x2),.lit (.int .i64 x3),.fn 179 []] (res r).1 (res r).2
def L1 (x2 x3 x1:Int) (k0_0:List Int) (φ:List Int->Prop):Prop:=Pt env 293 W B [1,0] [(0,.alias 1000000 []),(2,.lit (.int .i64 x2)),(3,.lit (.int .i64 x3)),(4,.fn 179 []),(10,.lit (.int .i64 x1)),(1000000,.own (k0_0.map (eI .u32)))] (Lv env 293 Tryz.f293 5 res φ)
def L2 (x2 x3:Int) (x1 z0:Int) (k0_0:List Int) (φ:List Int->Prop):Prop:=Pt env 293 W B [1,0,0,0,1,1,1,0,0] [(0,.alias 1000000 []),(2,.lit (.int .i64 x2)),(3,.lit (.int .i64 x3)),(4,.fn 179 []),(10,.lit (.int .i64 x1)),(11,.lit (.int .i64 z0)),(1000000,.own (k0_0.map (eI .u32)))] (Lv env 293 Tryz.f293 5 res φ)
theorem L1_step (x2 x3 x1:Int) (k0_0:List Int) (φ:List Int->Prop) (h :
 (if x2<=(IntKind.wrap .i64 ((IntKind.wrap .i64 (2*x1))+1)) then
 φ k0_0
 else
 (if (IntKind.wrap .i64 ((IntKind.wrap .i64 ((IntKind.wrap .i64 (2*x1))+1))+1))<x2 then
 ∃ a1,lget k0_0 ((IntKind.wrap .i64 (x3+(IntKind.wrap .i64 ((IntKind.wrap .i64 (2*x1))+1)))))=some a1 /\
 ∃ a3,lget k0_0 ((IntKind.wrap .i64 ((IntKind.wrap .i64 (x3+(IntKind.wrap .i64 ((IntKind.wrap .i64 (2*x1))+1))))+1)))=some a3 /\
 ∃ r5:Int,q54_.C a1 a3 r5 /\
 (if r5<0 then
 q18_.L2 x2 x3 x1 ((IntKind.wrap .i64 ((IntKind.wrap .i64 ((IntKind.wrap .i64 (2*x1))+1))+1))) k0_0 φ
 else
 q18_.L2 x2 x3 x1 ((IntKind.wrap .i64 ((IntKind.wrap .i64 (2*x1))+1))) k0_0 φ)
 else
 q18_.L2 x2 x3 x1 ((IntKind.wrap .i64 ((IntKind.wrap .i64 (2*x1))+1))) k0_0 φ))):L1 x2 x3 x1 k0_0 φ:=
 mIn <|
 mAsk 10 h dT dF (fun h=>
 mRet 2 h) fun h=>
 mAsk 7 h dT dF (fun h=>
 mIy 6 (eI .u32) h fun a1 h2 h=>
 mLd 0 (eI .u32) h2 <|
 mIy 5 (eI .u32) h fun a3 h4 h=>
 mLd 0 (eI .u32) h4 <|
 mCal 0 h (fun _ h=>h) fun r5 _ h=>
 mAsk 0 h dT dF (fun h=>
 mFin 8 h) fun h=>
 mFin 4 h) fun h=>
 mFin 21 h
theorem L2_step (x2 x3:Int) (x1 z0:Int) (k0_0:List Int) (φ:List Int->Prop) (h :
 ∃ a6,lget k0_0 ((IntKind.wrap .i64 (x3+x1)))=some a6 /\
 ∃ a8,lget k0_0 ((IntKind.wrap .i64 (x3+z0)))=some a8 /\
 ∃ r10:Int,q54_.C a6 a8 r10 /\
 (if r10<0 then
 ∃ a11,lget ((lset k0_0 (IntKind.wrap .i64 (x3+x1)) a8)) ((IntKind.wrap .i64 (x3+z0)))=some a11 /\
 q18_.L1 x2 x3 z0 ((lset (lset k0_0 (IntKind.wrap .i64 (x3+x1)) a8) (IntKind.wrap .i64 (x3+z0)) a6)) φ
 else
 φ k0_0)):L2 x2 x3 x1 z0 k0_0 φ:=
 mIn <|
 mIy 6 (eI .u32) h fun a6 h7 h=>
 mLd 0 (eI .u32) h7 <|
 mIy 4 (eI .u32) h fun a8 h9 h=>
 mLd 0 (eI .u32) h9 <|
 mCal 0 h (fun _ h=>h) fun r10 _ h=>
 mAsk 0 h dT dF (fun h=>
 mIyf 17 (eI .u32) h9 <|
 mLd 0 (eI .u32) h9 <|
 mIyf 4 (eI .u32) h7 <|
 mLd 0 (eI .u32) h7 <|
 mIyf 0 (eI .u32) h7 <|
 Aeo 0 (eI .u32) a8 h7 <|
 mIy 0 (eI .u32) h fun a11 h12 h=>
 mSto 0 (eI .u32) a6 h12 <|
 mFin 5 h) fun h=>
 mRet 3 h
theorem enter (x1 x2 x3:Int) (k0_0:List Int) (φ:List Int->Prop) (h :
 q18_.L1 x2 x3 x1 k0_0 φ):∃ r,φ r/\C x1 x2 x3 k0_0 r:=
 mEnt (fd:=Tryz.f293) (body:=B) (V:=W) (res:=res) <|
 mFin 4 h
end q18_
namespace q19_
noncomputable def B:Code:=(Tryz.f264.body).getD .skip
def W:List Nat:=[0,1,2,3,8,9,10,11,12,21,33,1000000]
def res (r:List Int):D×List D:=(.tup [],[.own (r.map (eI .u32))])
def C (x1 x2:Int) (k0_0 r:List Int):Prop:=Ret env 264 [.own (k0_0.map (eI .u32)),.lit (.int .i64 x1),.lit (.int .i64 x2),.fn 179 []] (res r).1 (res r).2
def L1 (x1 z0 z1:Int) (k0_0:List Int) (φ:List Int->Prop):Prop:=Pt env 264 W B [1,1,1,0,1,0] [(0,.alias 1000000 []),(3,.fn 179 []),(8,.lit (.int .i64 x1)),(9,.lit (.int .i64 0)),(10,.lit (.int .i64 z0)),(11,.lit (.int .i64 z1)),(1000000,.own (k0_0.map (eI .u32)))] (Lv env 264 Tryz.f264 4 res φ)
def L2 (x1 z0:Int) (k0_0:List Int) (φ:List Int->Prop):Prop:=Pt env 264 W B [1,1,1,1,1,0] [(0,.alias 1000000 []),(3,.fn 179 []),(8,.lit (.int .i64 x1)),(9,.lit (.int .i64 0)),(12,.lit (.int .i64 z0)),(1000000,.own (k0_0.map (eI .u32)))] (Lv env 264 Tryz.f264 4 res φ)
theorem L1_step (x1 z0 z1:Int) (k0_0:List Int) (φ:List Int->Prop) (h :
 (if 0<=z1 then
 ∃ r1:List Int,q18_.C z1 z0 x1 k0_0 r1 /\
 q19_.L1 x1 z0 ((IntKind.wrap .i64 (z1-1))) r1 φ
 else
 q19_.L2 x1 ((IntKind.wrap .i64 (z0-1))) k0_0 φ)):L1 x1 z0 z1 k0_0 φ:=
 mIn <|
 mAsk 3 h dT dF (fun h=>
 mCal 9 h (fun _ h=>h) (hf:=(fun _=>Acb (Aaz Aao) (Aae (e:=(eI .u32)) (fun _=>rfl)))) fun r1 _ h=>
 mFin 6 h) fun h=>
 mFin 8 h
theorem L2_step (x1 z0:Int) (k0_0:List Int) (φ:List Int->Prop) (h :
 (if 0<=z0 then
 ∃ a2,lget k0_0 ((IntKind.wrap .i64 (x1+z0)))=some a2 /\
 ∃ a4,lget k0_0 x1=some a4 /\
 ∃ a6,lget ((lset k0_0 x1 a2)) ((IntKind.wrap .i64 (x1+z0)))=some a6 /\
 ∃ r8:List Int,q18_.C 0 z0 x1 ((lset (lset k0_0 x1 a2) (IntKind.wrap .i64 (x1+z0)) a4)) r8 /\
 q19_.L2 x1 ((IntKind.wrap .i64 (z0-1))) r8 φ
 else
 φ k0_0)):L2 x1 z0 k0_0 φ:=
 mIn <|
 mAsk 3 h dT dF (fun h=>
 mIy 14 (eI .u32) h fun a2 h3 h=>
 mLd 0 (eI .u32) h3 <|
 mIy 2 (eI .u32) h fun a4 h5 h=>
 mLd 0 (eI .u32) h5 <|
 mIyf 0 (eI .u32) h5 <|
 Aeo 0 (eI .u32) a2 h5 <|
 mIy 0 (eI .u32) h fun a6 h7 h=>
 mSto 0 (eI .u32) a4 h7 <|
 mCal 7 h (fun _ h=>h) (hf:=(fun _=>Acb (Aaz Aao) (Aae (e:=(eI .u32)) (fun _=>rfl)))) fun r8 _ h=>
 mFin 6 h) fun h=>
 mRet 2 h
theorem enter (x1 x2:Int) (k0_0:List Int) (φ:List Int->Prop) (h :
 q19_.L1 x1 ((IntKind.wrap .i64 (x2-x1))) ((IntKind.wrap .i64 (Int.tdiv (IntKind.wrap .i64 ((IntKind.wrap .i64 (x2-x1))-1)) 2))) k0_0 φ):∃ r,φ r/\C x1 x2 k0_0 r:=
 mEnt (fd:=Tryz.f264) (body:=B) (V:=W) (res:=res) <|
 mFin 19 h
end q19_
namespace q1_
noncomputable def B:Code:=(Tryz.f268.body).getD .skip
def W:List Nat:=[0,1,2,3,8,9,10,11,12,16,36,41,45,65,69,84,104,109,124,1000000]
def res (r:Bool×List Int):D×List D:=(.lit (.bool r.1),[.own (r.2.map (eI .u32))])
def C (x1 x2:Int) (k0_0:List Int) (r:Bool×List Int):Prop:=Ret env 268 [.own (k0_0.map (eI .u32)),.lit (.int .i64 x1),.lit (.int .i64 x2),.fn 179 []] (res r).1 (res r).2
def L1 (x1 x2:Int) (z0 z1:Int) (k0_0:List Int) (φ:Bool×List Int->Prop):Prop:=Pt env 268 W B [1,1,0,1,0] [(0,.alias 1000000 []),(1,.lit (.int .i64 x1)),(2,.lit (.int .i64 x2)),(3,.fn 179 []),(9,.lit (.int .i64 z0)),(10,.lit (.int .i64 z1)),(1000000,.own (k0_0.map (eI .u32)))] (Lv env 268 Tryz.f268 4 res φ)
def L2 (x1 x2:Int) (z0 z1:Int) (k0_0:List Int) (φ:Bool×List Int->Prop):Prop:=Pt env 268 W B [1,1,0,1,0,0,1,0,0,0,0] [(0,.alias 1000000 []),(1,.lit (.int .i64 x1)),(2,.lit (.int .i64 x2)),(3,.fn 179 []),(9,.lit (.int .i64 z0)),(10,.lit (.int .i64 z1)),(1000000,.own (k0_0.map (eI .u32)))] (Lv env 268 Tryz.f268 4 res φ)
def L5 (x1 x2:Int) (z0 z1:Int) (k0_0:List Int) (φ:Bool×List Int->Prop):Prop:=Pt env 268 W B [1,1,0,1,0,0,1,0,0,1,0,0] [(0,.alias 1000000 []),(1,.lit (.int .i64 x1)),(2,.lit (.int .i64 x2)),(3,.fn 179 []),(9,.lit (.int .i64 z0)),(10,.lit (.int .i64 z1)),(1000000,.own (k0_0.map (eI .u32)))] (Lv env 268 Tryz.f268 4 res φ)
def L3 (x1 x2:Int) (z0 z1 z2:Int) (z3:List Int) (φ:Bool×List Int->Prop):Prop:=Pt env 268 W B [1,1,0,1,0,0,1,0,0,1,1,1,1,0,1,0,1,0] [(0,.alias 1000000 []),(1,.lit (.int .i64 x1)),(2,.lit (.int .i64 x2)),(3,.fn 179 []),(9,.lit (.int .i64 z0)),(10,.lit (.int .i64 z1)),(11,.lit (.int .i64 z2)),(1000000,.own (z3.map (eI .u32)))] (Lv env 268 Tryz.f268 4 res φ)
def L6 (x1 x2:Int) (z0 z1:Int) (z2:List Int) (φ:Bool×List Int->Prop):Prop:=Pt env 268 W B [1,1,0,1,0,0,1,0,0,1,1,1,1,1,0] [(0,.alias 1000000 []),(1,.lit (.int .i64 x1)),(2,.lit (.int .i64 x2)),(3,.fn 179 []),(9,.lit (.int .i64 z0)),(10,.lit (.int .i64 z1)),(1000000,.own (z2.map (eI .u32)))] (Lv env 268 Tryz.f268 4 res φ)
def L4 (x1 x2:Int) (z0 z1 z2:Int) (z3:List Int) (φ:Bool×List Int->Prop):Prop:=Pt env 268 W B [1,1,0,1,0,0,1,0,0,1,1,1,1,1,1,0,1,0] [(0,.alias 1000000 []),(1,.lit (.int .i64 x1)),(2,.lit (.int .i64 x2)),(3,.fn 179 []),(9,.lit (.int .i64 z0)),(10,.lit (.int .i64 z1)),(12,.lit (.int .i64 z2)),(1000000,.own (z3.map (eI .u32)))] (Lv env 268 Tryz.f268 4 res φ)
def L7 (x1 x2:Int) (z0 z1:Int) (z2:List Int) (φ:Bool×List Int->Prop):Prop:=Pt env 268 W B [1,1,0,1,0,0,1,1] [(0,.alias 1000000 []),(1,.lit (.int .i64 x1)),(2,.lit (.int .i64 x2)),(3,.fn 179 []),(9,.lit (.int .i64 z0)),(10,.lit (.int .i64 z1)),(1000000,.own (z2.map (eI .u32)))] (Lv env 268 Tryz.f268 4 res φ)
theorem L1_step (x1 x2:Int) (z0 z1:Int) (k0_0:List Int) (φ:Bool×List Int->Prop) (h :
 (if z1<5 then
 q1_.L2 x1 x2 z0 z1 k0_0 φ
 else
 φ ((false,k0_0)))):L1 x1 x2 z0 z1 k0_0 φ:=
 mIn <|
 mAsk 3 h dT dF (fun h=>
 mFin 3 h) fun h=>
 mRet 6 h
theorem L2_step (x1 x2:Int) (z0 z1:Int) (k0_0:List Int) (φ:Bool×List Int->Prop) (h :
 (if z0<x2 then
 ∃ a1,lget k0_0 z0=some a1 /\
 ∃ a3,lget k0_0 ((IntKind.wrap .i64 (z0-1)))=some a3 /\
 ∃ r5:Int,q54_.C a1 a3 r5 /\
 (if r5<0 then
 q1_.L5 x1 x2 z0 z1 k0_0 φ
 else
 q1_.L2 x1 x2 ((IntKind.wrap .i64 (z0+1))) z1 k0_0 φ)
 else
 q1_.L5 x1 x2 z0 z1 k0_0 φ)):L2 x1 x2 z0 z1 k0_0 φ:=
 mIn <|
 mAsk 4 h dT dF (fun h=>
 mIy 4 (eI .u32) h fun a1 h2 h=>
 mLd 0 (eI .u32) h2 <|
 mIy 3 (eI .u32) h fun a3 h4 h=>
 mLd 0 (eI .u32) h4 <|
 mCal 0 h (fun _ h=>h) fun r5 _ h=>
 mAsk 0 h dT dF (fun h=>
 mFin 5 h) fun h=>
 mFin 10 h) fun h=>
 mFin 18 h
theorem L5_step (x1 x2:Int) (z0 z1:Int) (k0_0:List Int) (φ:Bool×List Int->Prop) (h :
 (if z0=x2 then
 φ ((true,k0_0))
 else
 (if (IntKind.wrap .i64 (x2-x1))<50 then
 φ ((false,k0_0))
 else
 ∃ a6,lget k0_0 ((IntKind.wrap .i64 (z0-1)))=some a6 /\
 ∃ a8,lget k0_0 z0=some a8 /\
 ∃ a10,lget ((lset k0_0 z0 a6)) ((IntKind.wrap .i64 (z0-1)))=some a10 /\
 (if 2<=(IntKind.wrap .i64 (z0-x1)) then
 q1_.L3 x1 x2 z0 z1 ((IntKind.wrap .i64 (z0-1))) ((lset (lset k0_0 z0 a6) (IntKind.wrap .i64 (z0-1)) a8)) φ
 else
 q1_.L6 x1 x2 z0 z1 ((lset (lset k0_0 z0 a6) (IntKind.wrap .i64 (z0-1)) a8)) φ)))):L5 x1 x2 z0 z1 k0_0 φ:=
 mIn <|
 mAsk 3 h Abz Aby (fun h=>
 mRet 5 h) fun h=>
 mAsk 7 h dT dF (fun h=>
 mRet 5 h) fun h=>
 mIy 12 (eI .u32) h fun a6 h7 h=>
 mLd 0 (eI .u32) h7 <|
 mIy 2 (eI .u32) h fun a8 h9 h=>
 mLd 0 (eI .u32) h9 <|
 mIyf 0 (eI .u32) h9 <|
 Aeo 0 (eI .u32) a6 h9 <|
 mIy 0 (eI .u32) h fun a10 h11 h=>
 mSto 0 (eI .u32) a8 h11 <|
 mAsk 5 h dT dF (fun h=>
 mFin 7 h) fun h=>
 mFin 3 h
theorem L3_step (x1 x2:Int) (z0 z1 z2:Int) (z3:List Int) (φ:Bool×List Int->Prop) (h :
 (if 1<=z2 then
 ∃ a12,lget z3 z2=some a12 /\
 ∃ a14,lget z3 ((IntKind.wrap .i64 (z2-1)))=some a14 /\
 ∃ r16:Int,q54_.C a12 a14 r16 /\
 (if r16<0 then
 ∃ a17,lget ((lset z3 z2 a14)) ((IntKind.wrap .i64 (z2-1)))=some a17 /\
 q1_.L3 x1 x2 z0 z1 ((IntKind.wrap .i64 (z2-1))) ((lset (lset z3 z2 a14) (IntKind.wrap .i64 (z2-1)) a12)) φ
 else
 q1_.L6 x1 x2 z0 z1 z3 φ)
 else
 q1_.L6 x1 x2 z0 z1 z3 φ)):L3 x1 x2 z0 z1 z2 z3 φ:=
 mIn <|
 mAsk 3 h dT dF (fun h=>
 mIy 7 (eI .u32) h fun a12 h13 h=>
 mLd 0 (eI .u32) h13 <|
 mIy 3 (eI .u32) h fun a14 h15 h=>
 mLd 0 (eI .u32) h15 <|
 mCal 0 h (fun _ h=>h) fun r16 _ h=>
 mAsk 0 h dT dF (fun h=>
 mIyf 13 (eI .u32) h15 <|
 mLd 0 (eI .u32) h15 <|
 mIyf 2 (eI .u32) h13 <|
 mLd 0 (eI .u32) h13 <|
 mIyf 0 (eI .u32) h13 <|
 Aeo 0 (eI .u32) a14 h13 <|
 mIy 0 (eI .u32) h fun a17 h18 h=>
 mSto 0 (eI .u32) a12 h18 <|
 mFin 6 h) fun h=>
 mFin 4 h) fun h=>
 mFin 3 h
theorem L6_step (x1 x2:Int) (z0 z1:Int) (z2:List Int) (φ:Bool×List Int->Prop) (h :
 (if 2<=(IntKind.wrap .i64 (x2-z0)) then
 q1_.L4 x1 x2 z0 z1 ((IntKind.wrap .i64 (z0+1))) z2 φ
 else
 q1_.L7 x1 x2 z0 z1 z2 φ)):L6 x1 x2 z0 z1 z2 φ:=
 mIn <|
 mAsk 4 h dT dF (fun h=>
 mFin 7 h) fun h=>
 mFin 3 h
theorem L4_step (x1 x2:Int) (z0 z1 z2:Int) (z3:List Int) (φ:Bool×List Int->Prop) (h :
 (if z2<x2 then
 ∃ a19,lget z3 z2=some a19 /\
 ∃ a21,lget z3 ((IntKind.wrap .i64 (z2-1)))=some a21 /\
 ∃ r23:Int,q54_.C a19 a21 r23 /\
 (if r23<0 then
 ∃ a24,lget ((lset z3 z2 a21)) ((IntKind.wrap .i64 (z2-1)))=some a24 /\
 q1_.L4 x1 x2 z0 z1 ((IntKind.wrap .i64 (z2+1))) ((lset (lset z3 z2 a21) (IntKind.wrap .i64 (z2-1)) a19)) φ
 else
 q1_.L7 x1 x2 z0 z1 z3 φ)
 else
 q1_.L7 x1 x2 z0 z1 z3 φ)):L4 x1 x2 z0 z1 z2 z3 φ:=
 mIn <|
 mAsk 4 h dT dF (fun h=>
 mIy 7 (eI .u32) h fun a19 h20 h=>
 mLd 0 (eI .u32) h20 <|
 mIy 3 (eI .u32) h fun a21 h22 h=>
 mLd 0 (eI .u32) h22 <|
 mCal 0 h (fun _ h=>h) fun r23 _ h=>
 mAsk 0 h dT dF (fun h=>
 mIyf 13 (eI .u32) h22 <|
 mLd 0 (eI .u32) h22 <|
 mIyf 2 (eI .u32) h20 <|
 mLd 0 (eI .u32) h20 <|
 mIyf 0 (eI .u32) h20 <|
 Aeo 0 (eI .u32) a21 h20 <|
 mIy 0 (eI .u32) h fun a24 h25 h=>
 mSto 0 (eI .u32) a19 h25 <|
 mFin 6 h) fun h=>
 mFin 4 h) fun h=>
 mFin 3 h
theorem L7_step (x1 x2:Int) (z0 z1:Int) (z2:List Int) (φ:Bool×List Int->Prop) (h :
 q1_.L1 x1 x2 z0 ((IntKind.wrap .i64 (z1+1))) z2 φ):L7 x1 x2 z0 z1 z2 φ:=
 mIn <|
 mFin 5 h
theorem enter (x1 x2:Int) (k0_0:List Int) (φ:Bool×List Int->Prop) (h :
 q1_.L1 x1 x2 ((IntKind.wrap .i64 (x1+1))) 0 k0_0 φ):∃ r,φ r/\C x1 x2 k0_0 r:=
 mEnt (fd:=Tryz.f268) (body:=B) (V:=W) (res:=res) <|
 mFin 11 h
end q1_
namespace q15_
noncomputable def B:Code:=(Tryz.f270.body).getD .skip
def W:List Nat:=[0,1,2,3,4,10,11,12,13,47,66,71,120,139,144,1000000]
def res (r:Int×Bool×List Int):D×List D:=(.tup [.lit (.int .i64 r.1),.lit (.bool r.2.1)],[.own (r.2.2.map (eI .u32))])
def C (x1 x2 x3:Int) (k0_0:List Int) (r:Int×Bool×List Int):Prop:=Ret env 270 [.own (k0_0.map (eI .u32)),.lit (.int .i64 x1),.lit (.int .i64 x2),.lit (.int .i64 x3),.fn 179 []] (res r).1 (res r).2
def L1 (x1 z0 z1:Int) (z2:List Int) (φ:Int×Bool×List Int->Prop):Prop:=Pt env 270 W B [1,1,1,0,0] [(0,.alias 1000000 []),(1,.lit (.int .i64 x1)),(4,.fn 179 []),(12,.lit (.int .i64 z0)),(13,.lit (.int .i64 z1)),(1000000,.own (z2.map (eI .u32)))] (Lv env 270 Tryz.f270 5 res φ)
def L2 (x1 z0 z1:Int) (z2:List Int) (φ:Int×Bool×List Int->Prop):Prop:=Pt env 270 W B [1,1,1,1,0,0] [(0,.alias 1000000 []),(1,.lit (.int .i64 x1)),(4,.fn 179 []),(12,.lit (.int .i64 z0)),(13,.lit (.int .i64 z1)),(1000000,.own (z2.map (eI .u32)))] (Lv env 270 Tryz.f270 5 res φ)
def L4 (x1 z0 z1:Int) (z2:List Int) (φ:Int×Bool×List Int->Prop):Prop:=Pt env 270 W B [1,1,1,1,1,0,0] [(0,.alias 1000000 []),(1,.lit (.int .i64 x1)),(4,.fn 179 []),(12,.lit (.int .i64 z0)),(13,.lit (.int .i64 z1)),(1000000,.own (z2.map (eI .u32)))] (Lv env 270 Tryz.f270 5 res φ)
def L3 (x1 z0 z1:Int) (z2:List Int) (φ:Int×Bool×List Int->Prop):Prop:=Pt env 270 W B [1,1,1,1,1,1,1,1,1,0,0] [(0,.alias 1000000 []),(1,.lit (.int .i64 x1)),(4,.fn 179 []),(12,.lit (.int .i64 z0)),(13,.lit (.int .i64 z1)),(1000000,.own (z2.map (eI .u32)))] (Lv env 270 Tryz.f270 5 res φ)
def L5 (x1 z0 z1:Int) (z2:List Int) (φ:Int×Bool×List Int->Prop):Prop:=Pt env 270 W B [1,1,1,1,1,1,1,1,1,0,0,0,0,0,0] [(0,.alias 1000000 []),(1,.lit (.int .i64 x1)),(4,.fn 179 []),(12,.lit (.int .i64 z0)),(13,.lit (.int .i64 z1)),(1000000,.own (z2.map (eI .u32)))] (Lv env 270 Tryz.f270 5 res φ)
def L6 (x1 z0 z1:Int) (z2:List Int) (φ:Int×Bool×List Int->Prop):Prop:=Pt env 270 W B [1,1,1,1,1,1,1,1,1,0,0,0,0,1,0,0] [(0,.alias 1000000 []),(1,.lit (.int .i64 x1)),(4,.fn 179 []),(12,.lit (.int .i64 z0)),(13,.lit (.int .i64 z1)),(1000000,.own (z2.map (eI .u32)))] (Lv env 270 Tryz.f270 5 res φ)
def L7 (x1 z0 z1:Int) (z2:List Int) (φ:Int×Bool×List Int->Prop):Prop:=Pt env 270 W B [1,1,1,1,1,1,1,1,1,0,0,0,0,1,1,0,0] [(0,.alias 1000000 []),(1,.lit (.int .i64 x1)),(4,.fn 179 []),(12,.lit (.int .i64 z0)),(13,.lit (.int .i64 z1)),(1000000,.own (z2.map (eI .u32)))] (Lv env 270 Tryz.f270 5 res φ)
theorem L1_step (x1 z0 z1:Int) (z2:List Int) (φ:Int×Bool×List Int->Prop) (h :
 (if z0<=z1 then
 ∃ a7,lget z2 z0=some a7 /\
 ∃ a9,lget z2 x1=some a9 /\
 ∃ r11:Int,q54_.C a7 a9 r11 /\
 (if r11<0 then
 q15_.L1 x1 ((IntKind.wrap .i64 (z0+1))) z1 z2 φ
 else
 q15_.L2 x1 z0 z1 z2 φ)
 else
 q15_.L2 x1 z0 z1 z2 φ)):L1 x1 z0 z1 z2 φ:=
 mIn <|
 mAsk 4 h dT dF (fun h=>
 mIy 4 (eI .u32) h fun a7 h8 h=>
 mLd 0 (eI .u32) h8 <|
 mIy 2 (eI .u32) h fun a9 h10 h=>
 mLd 0 (eI .u32) h10 <|
 mCal 0 h (fun _ h=>h) fun r11 _ h=>
 mAsk 0 h dT dF (fun h=>
 mFin 9 h) fun h=>
 mFin 4 h) fun h=>
 mFin 16 h
theorem L2_step (x1 z0 z1:Int) (z2:List Int) (φ:Int×Bool×List Int->Prop) (h :
 (if z0<=z1 then
 ∃ a12,lget z2 z1=some a12 /\
 ∃ a14,lget z2 x1=some a14 /\
 ∃ r16:Int,q54_.C a12 a14 r16 /\
 (if r16<0 then
 q15_.L4 x1 z0 z1 z2 φ
 else
 q15_.L2 x1 z0 ((IntKind.wrap .i64 (z1-1))) z2 φ)
 else
 q15_.L4 x1 z0 z1 z2 φ)):L2 x1 z0 z1 z2 φ:=
 mIn <|
 mAsk 4 h dT dF (fun h=>
 mIy 4 (eI .u32) h fun a12 h13 h=>
 mLd 0 (eI .u32) h13 <|
 mIy 2 (eI .u32) h fun a14 h15 h=>
 mLd 0 (eI .u32) h15 <|
 mCal 0 h (fun _ h=>h) fun r16 _ h=>
 mAsk 0 h dT dF (fun h=>
 mFin 5 h) fun h=>
 mFin 10 h) fun h=>
 mFin 17 h
theorem L4_step (x1 z0 z1:Int) (z2:List Int) (φ:Int×Bool×List Int->Prop) (h :
 (if z1<z0 then
 ∃ a17,lget z2 x1=some a17 /\
 ∃ a19,lget z2 z1=some a19 /\
 ∃ a21,lget ((lset z2 z1 a17)) x1=some a21 /\
 φ ((z1,true,(lset (lset z2 z1 a17) x1 a19)))
 else
 ∃ a23,lget z2 z1=some a23 /\
 ∃ a25,lget z2 z0=some a25 /\
 ∃ a27,lget ((lset z2 z0 a23)) z1=some a27 /\
 q15_.L3 x1 ((IntKind.wrap .i64 (z0+1))) ((IntKind.wrap .i64 (z1-1))) ((lset (lset z2 z0 a23) z1 a25)) φ)):L4 x1 z0 z1 z2 φ:=
 mIn <|
 mAsk 3 h dT dF (fun h=>
 mIy 9 (eI .u32) h fun a17 h18 h=>
 mLd 0 (eI .u32) h18 <|
 mIy 2 (eI .u32) h fun a19 h20 h=>
 mLd 0 (eI .u32) h20 <|
 mIyf 0 (eI .u32) h20 <|
 Aeo 0 (eI .u32) a17 h20 <|
 mIy 0 (eI .u32) h fun a21 h22 h=>
 mSto 0 (eI .u32) a19 h22 <|
 mRet 6 h) fun h=>
 mIy 10 (eI .u32) h fun a23 h24 h=>
 mLd 0 (eI .u32) h24 <|
 mIy 2 (eI .u32) h fun a25 h26 h=>
 mLd 0 (eI .u32) h26 <|
 mIyf 0 (eI .u32) h26 <|
 Aeo 0 (eI .u32) a23 h26 <|
 mIy 0 (eI .u32) h fun a27 h28 h=>
 mSto 0 (eI .u32) a25 h28 <|
 mFin 11 h
theorem L3_step (x1 z0 z1:Int) (z2:List Int) (φ:Int×Bool×List Int->Prop) (h :
 q15_.L5 x1 z0 z1 z2 φ):L3 x1 z0 z1 z2 φ:=
 mIn <|
 mFin 1 h
theorem L5_step (x1 z0 z1:Int) (z2:List Int) (φ:Int×Bool×List Int->Prop) (h :
 (if z0<=z1 then
 ∃ a29,lget z2 z0=some a29 /\
 ∃ a31,lget z2 x1=some a31 /\
 ∃ r33:Int,q54_.C a29 a31 r33 /\
 (if r33<0 then
 q15_.L5 x1 ((IntKind.wrap .i64 (z0+1))) z1 z2 φ
 else
 q15_.L6 x1 z0 z1 z2 φ)
 else
 q15_.L6 x1 z0 z1 z2 φ)):L5 x1 z0 z1 z2 φ:=
 mIn <|
 mAsk 4 h dT dF (fun h=>
 mIy 4 (eI .u32) h fun a29 h30 h=>
 mLd 0 (eI .u32) h30 <|
 mIy 2 (eI .u32) h fun a31 h32 h=>
 mLd 0 (eI .u32) h32 <|
 mCal 0 h (fun _ h=>h) fun r33 _ h=>
 mAsk 0 h dT dF (fun h=>
 mFin 9 h) fun h=>
 mFin 4 h) fun h=>
 mFin 16 h
theorem L6_step (x1 z0 z1:Int) (z2:List Int) (φ:Int×Bool×List Int->Prop) (h :
 (if z0<=z1 then
 ∃ a34,lget z2 z1=some a34 /\
 ∃ a36,lget z2 x1=some a36 /\
 ∃ r38:Int,q54_.C a34 a36 r38 /\
 (if r38<0 then
 q15_.L7 x1 z0 z1 z2 φ
 else
 q15_.L6 x1 z0 ((IntKind.wrap .i64 (z1-1))) z2 φ)
 else
 q15_.L7 x1 z0 z1 z2 φ)):L6 x1 z0 z1 z2 φ:=
 mIn <|
 mAsk 4 h dT dF (fun h=>
 mIy 4 (eI .u32) h fun a34 h35 h=>
 mLd 0 (eI .u32) h35 <|
 mIy 2 (eI .u32) h fun a36 h37 h=>
 mLd 0 (eI .u32) h37 <|
 mCal 0 h (fun _ h=>h) fun r38 _ h=>
 mAsk 0 h dT dF (fun h=>
 mFin 5 h) fun h=>
 mFin 10 h) fun h=>
 mFin 17 h
theorem L7_step (x1 z0 z1:Int) (z2:List Int) (φ:Int×Bool×List Int->Prop) (h :
 (if z1<z0 then
 ∃ a39,lget z2 x1=some a39 /\
 ∃ a41,lget z2 z1=some a41 /\
 ∃ a43,lget ((lset z2 z1 a39)) x1=some a43 /\
 φ ((z1,false,(lset (lset z2 z1 a39) x1 a41)))
 else
 ∃ a45,lget z2 z1=some a45 /\
 ∃ a47,lget z2 z0=some a47 /\
 ∃ a49,lget ((lset z2 z0 a45)) z1=some a49 /\
 q15_.L3 x1 ((IntKind.wrap .i64 (z0+1))) ((IntKind.wrap .i64 (z1-1))) ((lset (lset z2 z0 a45) z1 a47)) φ)):L7 x1 z0 z1 z2 φ:=
 mIn <|
 mAsk 3 h dT dF (fun h=>
 mIy 10 (eI .u32) h fun a39 h40 h=>
 mLd 0 (eI .u32) h40 <|
 mIy 2 (eI .u32) h fun a41 h42 h=>
 mLd 0 (eI .u32) h42 <|
 mIyf 0 (eI .u32) h42 <|
 Aeo 0 (eI .u32) a39 h42 <|
 mIy 0 (eI .u32) h fun a43 h44 h=>
 mSto 0 (eI .u32) a41 h44 <|
 mRet 6 h) fun h=>
 mIy 10 (eI .u32) h fun a45 h46 h=>
 mLd 0 (eI .u32) h46 <|
 mIy 2 (eI .u32) h fun a47 h48 h=>
 mLd 0 (eI .u32) h48 <|
 mIyf 0 (eI .u32) h48 <|
 Aeo 0 (eI .u32) a45 h48 <|
 mIy 0 (eI .u32) h fun a49 h50 h=>
 mSto 0 (eI .u32) a47 h50 <|
 mFin 11 h
theorem enter (x1 x2 x3:Int) (k0_0:List Int) (φ:Int×Bool×List Int->Prop) (h :
 ∃ a1,lget k0_0 x3=some a1 /\
 ∃ a3,lget k0_0 x1=some a3 /\
 ∃ a5,lget ((lset k0_0 x1 a1)) x3=some a5 /\
 q15_.L1 x1 ((IntKind.wrap .i64 (x1+1))) ((IntKind.wrap .i64 (x2-1))) ((lset (lset k0_0 x1 a1) x3 a3)) φ):∃ r,φ r/\C x1 x2 x3 k0_0 r:=
 mEnt (fd:=Tryz.f270) (body:=B) (V:=W) (res:=res) <|
 mIy 11 (eI .u32) h fun a1 h2 h=>
 mLd 0 (eI .u32) h2 <|
 mIy 2 (eI .u32) h fun a3 h4 h=>
 mLd 0 (eI .u32) h4 <|
 mIyf 0 (eI .u32) h4 <|
 Aeo 0 (eI .u32) a1 h4 <|
 mIy 0 (eI .u32) h fun a5 h6 h=>
 mSto 0 (eI .u32) a3 h6 <|
 mFin 9 h
end q15_
namespace q5_
noncomputable def B:Code:=(Tryz.f269.body).getD .skip
def W:List Nat:=[0,1,2,3,4,10,11,12,47,65,70,1000000]
def res (r:Int×List Int):D×List D:=(.lit (.int .i64 r.1),[.own (r.2.map (eI .u32))])
def C (x1 x2 x3:Int) (k0_0:List Int) (r:Int×List Int):Prop:=Ret env 269 [.own (k0_0.map (eI .u32)),.lit (.int .i64 x1),.lit (.int .i64 x2),.lit (.int .i64 x3),.fn 179 []] (res r).1 (res r).2
def L1 (x1 z0 z1:Int) (z2:List Int) (φ:Int×List Int->Prop):Prop:=Pt env 269 W B [1,1,1,0,0] [(0,.alias 1000000 []),(1,.lit (.int .i64 x1)),(4,.fn 179 []),(11,.lit (.int .i64 z0)),(12,.lit (.int .i64 z1)),(1000000,.own (z2.map (eI .u32)))] (Lv env 269 Tryz.f269 5 res φ)
def L2 (x1 z0 z1:Int) (z2:List Int) (φ:Int×List Int->Prop):Prop:=Pt env 269 W B [1,1,1,0,0,0,0,0,0] [(0,.alias 1000000 []),(1,.lit (.int .i64 x1)),(4,.fn 179 []),(11,.lit (.int .i64 z0)),(12,.lit (.int .i64 z1)),(1000000,.own (z2.map (eI .u32)))] (Lv env 269 Tryz.f269 5 res φ)
def L3 (x1 z0 z1:Int) (z2:List Int) (φ:Int×List Int->Prop):Prop:=Pt env 269 W B [1,1,1,0,0,0,0,1,0,0] [(0,.alias 1000000 []),(1,.lit (.int .i64 x1)),(4,.fn 179 []),(11,.lit (.int .i64 z0)),(12,.lit (.int .i64 z1)),(1000000,.own (z2.map (eI .u32)))] (Lv env 269 Tryz.f269 5 res φ)
def L4 (x1 z0 z1:Int) (z2:List Int) (φ:Int×List Int->Prop):Prop:=Pt env 269 W B [1,1,1,0,0,0,0,1,1,0,0] [(0,.alias 1000000 []),(1,.lit (.int .i64 x1)),(4,.fn 179 []),(11,.lit (.int .i64 z0)),(12,.lit (.int .i64 z1)),(1000000,.own (z2.map (eI .u32)))] (Lv env 269 Tryz.f269 5 res φ)
theorem L1_step (x1 z0 z1:Int) (z2:List Int) (φ:Int×List Int->Prop) (h :
 q5_.L2 x1 z0 z1 z2 φ):L1 x1 z0 z1 z2 φ:=
 mIn <|
 mFin 1 h
theorem L2_step (x1 z0 z1:Int) (z2:List Int) (φ:Int×List Int->Prop) (h :
 (if z0<=z1 then
 ∃ a7,lget z2 x1=some a7 /\
 ∃ a9,lget z2 z0=some a9 /\
 ∃ r11:Int,q54_.C a7 a9 r11 /\
 (if r11<0 then
 q5_.L3 x1 z0 z1 z2 φ
 else
 q5_.L2 x1 ((IntKind.wrap .i64 (z0+1))) z1 z2 φ)
 else
 q5_.L3 x1 z0 z1 z2 φ)):L2 x1 z0 z1 z2 φ:=
 mIn <|
 mAsk 4 h dT dF (fun h=>
 mIy 4 (eI .u32) h fun a7 h8 h=>
 mLd 0 (eI .u32) h8 <|
 mIy 2 (eI .u32) h fun a9 h10 h=>
 mLd 0 (eI .u32) h10 <|
 mCal 0 h (fun _ h=>h) fun r11 _ h=>
 mAsk 0 h dT dF (fun h=>
 mFin 5 h) fun h=>
 mFin 10 h) fun h=>
 mFin 17 h
theorem L3_step (x1 z0 z1:Int) (z2:List Int) (φ:Int×List Int->Prop) (h :
 (if z0<=z1 then
 ∃ a12,lget z2 x1=some a12 /\
 ∃ a14,lget z2 z1=some a14 /\
 ∃ r16:Int,q54_.C a12 a14 r16 /\
 (if r16<0 then
 q5_.L3 x1 z0 ((IntKind.wrap .i64 (z1-1))) z2 φ
 else
 q5_.L4 x1 z0 z1 z2 φ)
 else
 q5_.L4 x1 z0 z1 z2 φ)):L3 x1 z0 z1 z2 φ:=
 mIn <|
 mAsk 4 h dT dF (fun h=>
 mIy 4 (eI .u32) h fun a12 h13 h=>
 mLd 0 (eI .u32) h13 <|
 mIy 2 (eI .u32) h fun a14 h15 h=>
 mLd 0 (eI .u32) h15 <|
 mCal 0 h (fun _ h=>h) fun r16 _ h=>
 mAsk 0 h dT dF (fun h=>
 mFin 9 h) fun h=>
 mFin 4 h) fun h=>
 mFin 16 h
theorem L4_step (x1 z0 z1:Int) (z2:List Int) (φ:Int×List Int->Prop) (h :
 (if z1<z0 then
 φ ((z0,z2))
 else
 ∃ a17,lget z2 z1=some a17 /\
 ∃ a19,lget z2 z0=some a19 /\
 ∃ a21,lget ((lset z2 z0 a17)) z1=some a21 /\
 q5_.L1 x1 ((IntKind.wrap .i64 (z0+1))) ((IntKind.wrap .i64 (z1-1))) ((lset (lset z2 z0 a17) z1 a19)) φ)):L4 x1 z0 z1 z2 φ:=
 mIn <|
 mAsk 3 h dT dF (fun h=>
 mRet 7 h) fun h=>
 mIy 10 (eI .u32) h fun a17 h18 h=>
 mLd 0 (eI .u32) h18 <|
 mIy 2 (eI .u32) h fun a19 h20 h=>
 mLd 0 (eI .u32) h20 <|
 mIyf 0 (eI .u32) h20 <|
 Aeo 0 (eI .u32) a17 h20 <|
 mIy 0 (eI .u32) h fun a21 h22 h=>
 mSto 0 (eI .u32) a19 h22 <|
 mFin 11 h
theorem enter (x1 x2 x3:Int) (k0_0:List Int) (φ:Int×List Int->Prop) (h :
 ∃ a1,lget k0_0 x3=some a1 /\
 ∃ a3,lget k0_0 x1=some a3 /\
 ∃ a5,lget ((lset k0_0 x1 a1)) x3=some a5 /\
 q5_.L1 x1 ((IntKind.wrap .i64 (x1+1))) ((IntKind.wrap .i64 (x2-1))) ((lset (lset k0_0 x1 a1) x3 a3)) φ):∃ r,φ r/\C x1 x2 x3 k0_0 r:=
 mEnt (fd:=Tryz.f269) (body:=B) (V:=W) (res:=res) <|
 mIy 10 (eI .u32) h fun a1 h2 h=>
 mLd 0 (eI .u32) h2 <|
 mIy 2 (eI .u32) h fun a3 h4 h=>
 mLd 0 (eI .u32) h4 <|
 mIyf 0 (eI .u32) h4 <|
 Aeo 0 (eI .u32) a1 h4 <|
 mIy 0 (eI .u32) h fun a5 h6 h=>
 mSto 0 (eI .u32) a3 h6 <|
 mFin 9 h
end q5_
namespace q9_
noncomputable def B:Code:=(Tryz.f267.body).getD .skip
def W:List Nat:=[0,1,2,3,8,9,15,1000000]
def res (r:List Int):D×List D:=(.tup [],[.own (r.map (eI .u32))])
def C (x1 x2:Int) (k0_0 r:List Int):Prop:=Ret env 267 [.own (k0_0.map (eI .u32)),.lit (.int .i64 x1),.lit (.int .i64 x2),.fn 179 []] (res r).1 (res r).2
def L1 (x1 z0:Int) (k0_0:List Int) (φ:List Int->Prop):Prop:=Pt env 267 W B [1,1,0] [(0,.alias 1000000 []),(8,.lit (.int .i64 x1)),(9,.lit (.int .i64 z0)),(1000000,.own (k0_0.map (eI .u32)))] (Lv env 267 Tryz.f267 4 res φ)
theorem L1_step (x1 z0:Int) (k0_0:List Int) (φ:List Int->Prop) (h :
 (if x1<z0 then
 ∃ a1,lget k0_0 z0=some a1 /\
 ∃ a3,lget k0_0 x1=some a3 /\
 ∃ a5,lget ((lset k0_0 x1 a1)) z0=some a5 /\
 q9_.L1 ((IntKind.wrap .i64 (x1+1))) ((IntKind.wrap .i64 (z0-1))) ((lset (lset k0_0 x1 a1) z0 a3)) φ
 else
 φ k0_0)):L1 x1 z0 k0_0 φ:=
 mIn <|
 mAsk 4 h dT dF (fun h=>
 mIy 10 (eI .u32) h fun a1 h2 h=>
 mLd 0 (eI .u32) h2 <|
 mIy 2 (eI .u32) h fun a3 h4 h=>
 mLd 0 (eI .u32) h4 <|
 mIyf 0 (eI .u32) h4 <|
 Aeo 0 (eI .u32) a1 h4 <|
 mIy 0 (eI .u32) h fun a5 h6 h=>
 mSto 0 (eI .u32) a3 h6 <|
 mFin 11 h) fun h=>
 mRet 2 h
theorem enter (x1 x2:Int) (k0_0:List Int) (φ:List Int->Prop) (h :
 q9_.L1 x1 ((IntKind.wrap .i64 (x2-1))) k0_0 φ):∃ r,φ r/\C x1 x2 k0_0 r:=
 mEnt (fd:=Tryz.f267) (body:=B) (V:=W) (res:=res) <|
 mFin 9 h
end q9_
namespace q21_
noncomputable def B:Code:=(Tryz.f302.body).getD .skip
def W:List Nat:=[0,1,2,3,4,10,11,22,1000003]
def res (r:Int×Int×Int):D×List D:=(.tup [.lit (.int .i64 r.1),.lit (.int .i64 r.2.1)],[.box [.lit (.int .i64 r.2.2)]])
def C (x0:List Int) (x1 x2 k3_0:Int) (r:Int×Int×Int):Prop:=Ret env 302 [.sl (x0.map (eI .u32)),.lit (.int .i64 x1),.lit (.int .i64 x2),.box [.lit (.int .i64 k3_0)],.fn 179 []] (res r).1 (res r).2
theorem enter (x0:List Int) (x1 x2 k3_0:Int) (φ:Int×Int×Int->Prop) (h :
 ∃ a1,lget x0 x2=some a1 /\
 ∃ a3,lget x0 x1=some a3 /\
 ∃ r5:Int,q54_.C a1 a3 r5 /\
 (if r5<0 then
 φ ((x2,x1,(IntKind.wrap .i64 (k3_0+1))))
 else
 φ ((x1,x2,k3_0)))):∃ r,φ r/\C x0 x1 x2 k3_0 r:=
 mEnt (fd:=Tryz.f302) (body:=B) (V:=W) (res:=res) <|
 mIx 8 (eI .u32) h fun a1 h2 h=>
 mIx 3 (eI .u32) h fun a3 h4 h=>
 mCal 1 h (fun _ h=>h) fun r5 _ h=>
 mAsk 0 h dT dF (fun h=>
 mRet 16 h) fun h=>
 mRet 9 h
end q21_
namespace q22_
noncomputable def B:Code:=(Tryz.f295.body).getD .skip
def W:List Nat:=[0,1,2,3,4,5,12,1000004]
def res (r:Int×Int):D×List D:=(.lit (.int .i64 r.1),[.box [.lit (.int .i64 r.2)]])
def C (x0:List Int) (x1 x2:Int) (x3 k4_0:Int) (r:Int×Int):Prop:=Ret env 295 [.sl (x0.map (eI .u32)),.lit (.int .i64 x1),.lit (.int .i64 x2),.lit (.int .i64 x3),.box [.lit (.int .i64 k4_0)],.fn 179 []] (res r).1 (res r).2
theorem enter (x0:List Int) (x1 x2:Int) (x3 k4_0:Int) (φ:Int×Int->Prop) (h :
 ∃ r1:Int×Int×Int,q21_.C x0 x1 x2 k4_0 r1 /\
 ∃ r2:Int×Int×Int,q21_.C x0 r1.2.1 x3 r1.2.2 r2 /\
 ∃ r3:Int×Int×Int,q21_.C x0 r1.1 r2.1 r2.2.2 r3 /\
 φ ((r3.2.1,r3.2.2))):∃ r,φ r/\C x0 x1 x2 x3 k4_0 r:=
 mEnt (fd:=Tryz.f295) (body:=B) (V:=W) (res:=res) <|
 mCal 9 h (fun _ h=>h) fun r1 _ h=>
 mCal 12 h (fun _ h=>h) fun r2 _ h=>
 mCal 12 h (fun _ h=>h) fun r3 _ h=>
 mRet 10 h
end q22_
namespace q6_
noncomputable def B:Code:=(Tryz.f294.body).getD .skip
def W:List Nat:=[0,1,2,3,8,1000002]
def res (r:Int×Int):D×List D:=(.lit (.int .i64 r.1),[.box [.lit (.int .i64 r.2)]])
def C (x0:List Int) (x1 k2_0:Int) (r:Int×Int):Prop:=Ret env 294 [.sl (x0.map (eI .u32)),.lit (.int .i64 x1),.box [.lit (.int .i64 k2_0)],.fn 179 []] (res r).1 (res r).2
theorem enter (x0:List Int) (x1 k2_0:Int) (φ:Int×Int->Prop) (h :
 ∃ r1:Int×Int,q22_.C x0 ((IntKind.wrap .i64 (x1-1))) x1 ((IntKind.wrap .i64 (x1+1))) k2_0 r1 /\
 φ ((r1.1,r1.2))):∃ r,φ r/\C x0 x1 k2_0 r:=
 mEnt (fd:=Tryz.f294) (body:=B) (V:=W) (res:=res) <|
 mCal 12 h (fun _ h=>h) fun r1 _ h=>
 mRet 2 h
end q6_
namespace q13_
noncomputable def B:Code:=(Tryz.f266.body).getD .skip
def W:List Nat:=[0,1,2,3,8,9,10,11,12,13,14,34,36,55,57,60]
def res (r:Int×Int):D×List D:=(.tup [.lit (.int .i64 r.1),.lit (.int .i64 r.2)],[])
def C (x0:List Int) (x1 x2:Int) (r:Int×Int):Prop:=Ret env 266 [.sl (x0.map (eI .u32)),.lit (.int .i64 x1),.lit (.int .i64 x2),.fn 179 []] (res r).1 (res r).2
def L1 (x0:List Int) (z0 z1:Int) (z2 z3:Int) (φ:Int×Int->Prop):Prop:=Pt env 266 W B [1,1,1,1,1,1,0,1,0,1] [(0,.sl (x0.map (eI .u32))),(3,.fn 179 []),(11,.box [.lit (.int .i64 z0)]),(12,.lit (.int .i64 z1)),(13,.lit (.int .i64 z2)),(14,.lit (.int .i64 z3))] (Lv env 266 Tryz.f266 4 res φ)
def L2 (z0 z1:Int) (φ:Int×Int->Prop):Prop:=Pt env 266 W B [1,1,1,1,1,1,1,0] [(11,.box [.lit (.int .i64 z0)]),(13,.lit (.int .i64 z1))] (Lv env 266 Tryz.f266 4 res φ)
theorem L1_step (x0:List Int) (z0 z1:Int) (z2 z3:Int) (φ:Int×Int->Prop) (h :
 ∃ r4:Int×Int,q22_.C x0 z1 z2 z3 z0 r4 /\
 q13_.L2 r4.2 r4.1 φ):L1 x0 z0 z1 z2 z3 φ:=
 mIn <|
 mCal 6 h (fun _ h=>h) fun r4 _ h=>
 mFin 2 h
theorem L2_step (z0 z1:Int) (φ:Int×Int->Prop) (h :
 (if z0=0 then
 φ ((z1,1))
 else
 (if z0=12 then
 φ ((z1,2))
 else
 φ ((z1,0))))):L2 z0 z1 φ:=
 mIn <|
 mCon 7 h Abz Aby (fun h=>
 mRet 5 h) fun h=>
 mCon 4 h Abz Aby (fun h=>
 mRet 5 h) fun h=>
 mRet 5 h
theorem enter (x0:List Int) (x1 x2:Int) (φ:Int×Int->Prop) (h :
 (if 8<=(IntKind.wrap .i64 (x2-x1)) then
 (if 50<=(IntKind.wrap .i64 (x2-x1)) then
 ∃ r1:Int×Int,q6_.C x0 ((IntKind.wrap .i64 (x1+(IntKind.wrap .i64 ((IntKind.wrap .i64 (Int.tdiv (IntKind.wrap .i64 (x2-x1)) 4))*1))))) 0 r1 /\
 ∃ r2:Int×Int,q6_.C x0 ((IntKind.wrap .i64 (x1+(IntKind.wrap .i64 ((IntKind.wrap .i64 (Int.tdiv (IntKind.wrap .i64 (x2-x1)) 4))*2))))) r1.2 r2 /\
 ∃ r3:Int×Int,q6_.C x0 ((IntKind.wrap .i64 (x1+(IntKind.wrap .i64 ((IntKind.wrap .i64 (Int.tdiv (IntKind.wrap .i64 (x2-x1)) 4))*3))))) r2.2 r3 /\
 q13_.L1 x0 r3.2 r1.1 r2.1 r3.1 φ
 else
 q13_.L1 x0 0 ((IntKind.wrap .i64 (x1+(IntKind.wrap .i64 ((IntKind.wrap .i64 (Int.tdiv (IntKind.wrap .i64 (x2-x1)) 4))*1))))) ((IntKind.wrap .i64 (x1+(IntKind.wrap .i64 ((IntKind.wrap .i64 (Int.tdiv (IntKind.wrap .i64 (x2-x1)) 4))*2))))) ((IntKind.wrap .i64 (x1+(IntKind.wrap .i64 ((IntKind.wrap .i64 (Int.tdiv (IntKind.wrap .i64 (x2-x1)) 4))*3))))) φ)
 else
 q13_.L2 0 ((IntKind.wrap .i64 (x1+(IntKind.wrap .i64 ((IntKind.wrap .i64 (Int.tdiv (IntKind.wrap .i64 (x2-x1)) 4))*2))))) φ)):∃ r,φ r/\C x0 x1 x2 r:=
 mEnt (fd:=Tryz.f266) (body:=B) (V:=W) (res:=res) <|
 mAsk 39 h dT dF (fun h=>
 mAsk 4 h dT dF (fun h=>
 mCal 6 h (fun _ h=>h) fun r1 _ h=>
 mCal 6 h (fun _ h=>h) fun r2 _ h=>
 mCal 6 h (fun _ h=>h) fun r3 _ h=>
 mFin 2 h) fun h=>
 mFin 3 h) fun h=>
 mFin 3 h
end q13_
namespace q55_
noncomputable def B:Code:=(Tryz.f244.body).getD .skip
def W:List Nat:=[0,2,4,8,14]
def res (r:Int):D×List D:=(.lit (.int .i64 r),[])
def C (x0 r:Int):Prop:=Ret env 244 [.lit (.int .u64 x0)] (res r).1 (res r).2
def L3 (z0 z1:Int) (φ:Int->Prop):Prop:=Pt env 244 W B [1,1,0,0] [(0,.lit (.int .u64 z0)),(2,.lit (.int .i64 z1))] (Lv env 244 Tryz.f244 1 res φ)
def L2 (z0 z1:Int) (φ:Int->Prop):Prop:=Pt env 244 W B [1,1,1,0,0] [(0,.lit (.int .u64 z0)),(2,.lit (.int .i64 z1))] (Lv env 244 Tryz.f244 1 res φ)
def L1 (z0 z1:Int) (φ:Int->Prop):Prop:=Pt env 244 W B [1,1,1,1,0] [(0,.lit (.int .u64 z0)),(2,.lit (.int .i64 z1))] (Lv env 244 Tryz.f244 1 res φ)
theorem L3_step (z0 z1:Int) (φ:Int->Prop) (h :
 (if 65536<=z0 then
 q55_.L2 ((shrw .u64 z0 16)) ((IntKind.wrap .i64 (z1+16))) φ
 else
 q55_.L2 z0 z1 φ)):L3 z0 z1 φ:=
 mIn <|
 mAsk 2 h dT dF (fun h=>
 mFin 12 h) fun h=>
 mFin 3 h
theorem L2_step (z0 z1:Int) (φ:Int->Prop) (h :
 (if 256<=z0 then
 q55_.L1 ((shrw .u64 z0 8)) ((IntKind.wrap .i64 (z1+8))) φ
 else
 q55_.L1 z0 z1 φ)):L2 z0 z1 φ:=
 mIn <|
 mAsk 2 h dT dF (fun h=>
 mFin 12 h) fun h=>
 mFin 3 h
theorem L1_step (z0 z1:Int) (φ:Int->Prop) (h :
 ∃ b1,((0:Int)<=(IntKind.wrap .u8 z0)/\((⟨#[0,1,2,2,3,3,3,3,4,4,4,4,4,4,4,4,5,5,5,5,5,5,5,5,5,5,5,5,5,5,5,5,6,6,6,6,6,6,6,6,6,6,6,6,6,6,6,6,6,6,6,6,6,6,6,6,6,6,6,6,6,6,6,6,7,7,7,7,7,7,7,7,7,7,7,7,7,7,7,7,7,7,7,7,7,7,7,7,7,7,7,7,7,7,7,7,7,7,7,7,7,7,7,7,7,7,7,7,7,7,7,7,7,7,7,7,7,7,7,7,7,7,7,7,7,7,7,7,8,8,8,8,8,8,8,8,8,8,8,8,8,8,8,8,8,8,8,8,8,8,8,8,8,8,8,8,8,8,8,8,8,8,8,8,8,8,8,8,8,8,8,8,8,8,8,8,8,8,8,8,8,8,8,8,8,8,8,8,8,8,8,8,8,8,8,8,8,8,8,8,8,8,8,8,8,8,8,8,8,8,8,8,8,8,8,8,8,8,8,8,8,8,8,8,8,8,8,8,8,8,8,8,8,8,8,8,8,8,8,8,8,8,8,8,8,8,8,8,8,8,8,8,8,8,8,8]⟩:ByteArray))[((IntKind.wrap .u8 z0)).toNat]? = some b1) /\
 φ ((IntKind.wrap .i64 (z1+(IntKind.wrap .i64 (u8i b1)))))):L1 z0 z1 φ:=
 mIn <|
 mSt 4 h fun b1 h=>
 mRet 4 h
theorem enter (x0:Int) (φ:Int->Prop) (h :
 (if 4294967296<=x0 then
 q55_.L3 ((shrw .u64 x0 32)) 32 φ
 else
 q55_.L3 x0 0 φ)):∃ r,φ r/\C x0 r:=
 mEnt (fd:=Tryz.f244) (body:=B) (V:=W) (res:=res) <|
 mAsk 5 h dT dF (fun h=>
 mFin 10 h) fun h=>
 mFin 3 h
end q55_
namespace q73_
noncomputable def B:Code:=(Tryz.f209.body).getD .skip
def W:List Nat:=[0,2]
def res (r:Int):D×List D:=(.lit (.int .i64 r),[])
def C (x0 r:Int):Prop:=Ret env 209 [.lit (.int .u64 x0)] (res r).1 (res r).2
theorem enter (x0:Int) (φ:Int->Prop) (h :
 ∃ r1:Int,q55_.C x0 r1 /\
 φ r1):∃ r,φ r/\C x0 r:=
 mEnt (fd:=Tryz.f209) (body:=B) (V:=W) (res:=res) <|
 mCal 7 h (fun _ h=>h) fun r1 _ h=>
 mRet 2 h
end q73_
namespace q32_
noncomputable def B:Code:=(Tryz.f283.body).getD .skip
def W:List Nat:=[0,2]
def res (r:Int):D×List D:=(.lit (.int .u64 r),[])
def C (x0 r:Int):Prop:=Ret env 283 [.lit (.int .i64 x0)] (res r).1 (res r).2
theorem enter (x0:Int) (φ:Int->Prop) (h :
 ∃ r1:Int,q73_.C ((IntKind.wrap .u64 x0)) r1 /\
 0<=r1 /\
 φ ((shlw .u64 1 r1))):∃ r,φ r/\C x0 r:=
 mEnt (fd:=Tryz.f283) (body:=B) (V:=W) (res:=res) <|
 mCal 6 h (fun _ h=>h) fun r1 _ h=>
 h.elim fun h2 h=>
 mBi 0 (Adt (t:=275) (q:=.u64) (q':=.i64) (i1:=1) h2) <|
 mRet 2 h
end q32_
namespace q35_
noncomputable def B:Code:=(Tryz.f284.body).getD .skip
def W:List Nat:=[0,2,1000000]
def res (r:Int×Int):D×List D:=(.lit (.int .u64 r.1),[.box [.lit (.int .u64 r.2)]])
def C (k0_0:Int) (r:Int×Int):Prop:=Ret env 284 [.box [.lit (.int .u64 k0_0)]] (res r).1 (res r).2
theorem enter (k0_0:Int) (φ:Int×Int->Prop) (h :
 φ (((bXor .u64 (bXor .u64 (bXor .u64 k0_0 (shlw .u64 k0_0 13)) (shrw .u64 (bXor .u64 k0_0 (shlw .u64 k0_0 13)) 7)) (shlw .u64 (bXor .u64 (bXor .u64 k0_0 (shlw .u64 k0_0 13)) (shrw .u64 (bXor .u64 k0_0 (shlw .u64 k0_0 13)) 7)) 17)),(bXor .u64 (bXor .u64 (bXor .u64 k0_0 (shlw .u64 k0_0 13)) (shrw .u64 (bXor .u64 k0_0 (shlw .u64 k0_0 13)) 7)) (shlw .u64 (bXor .u64 (bXor .u64 k0_0 (shlw .u64 k0_0 13)) (shrw .u64 (bXor .u64 k0_0 (shlw .u64 k0_0 13)) 7)) 17))))):∃ r,φ r/\C k0_0 r:=
 mEnt (fd:=Tryz.f284) (body:=B) (V:=W) (res:=res) <|
 mRet 45 h
end q35_
namespace q8_
noncomputable def B:Code:=(Tryz.f265.body).getD .skip
def W:List Nat:=[0,1,2,3,8,9,10,11,12,17,35,45,1000000]
def res (r:List Int):D×List D:=(.tup [],[.own (r.map (eI .u32))])
def C (x1 x2:Int) (k0_0 r:List Int):Prop:=Ret env 265 [.own (k0_0.map (eI .u32)),.lit (.int .i64 x1),.lit (.int .i64 x2),.fn 179 []] (res r).1 (res r).2
def L1 (x1 z0:Int) (z1 r1 z2:Int) (k0_0:List Int) (φ:List Int->Prop):Prop:=Pt env 265 W B [1,1,0,1,1,1,0] [(0,.alias 1000000 []),(1,.lit (.int .i64 x1)),(8,.lit (.int .i64 z0)),(9,.box [.lit (.int .u64 z1)]),(10,.lit (.int .u64 r1)),(11,.lit (.int .i64 z2)),(1000000,.own (k0_0.map (eI .u32)))] (Lv env 265 Tryz.f265 4 res φ)
def L2 (x1 z0:Int) (r2:Int×Int) (r1 z1 z2:Int) (k0_0:List Int) (φ:List Int->Prop):Prop:=Pt env 265 W B [1,1,0,1,1,1,0,0,1,0,0,1,1] [(0,.alias 1000000 []),(1,.lit (.int .i64 x1)),(8,.lit (.int .i64 z0)),(9,.box [.lit (.int .u64 r2.2)]),(10,.lit (.int .u64 r1)),(11,.lit (.int .i64 z1)),(12,.lit (.int .i64 z2)),(1000000,.own (k0_0.map (eI .u32)))] (Lv env 265 Tryz.f265 4 res φ)
theorem L1_step (x1 z0:Int) (z1 r1 z2:Int) (k0_0:List Int) (φ:List Int->Prop) (h :
 (if z2<=(IntKind.wrap .i64 ((IntKind.wrap .i64 (x1+(IntKind.wrap .i64 ((IntKind.wrap .i64 (Int.tdiv z0 4))*2))))+1)) then
 ∃ r2:Int×Int,q35_.C z1 r2 /\
 (if z0<=(IntKind.wrap .i64 (bAnd .u64 r2.1 (IntKind.wrap .u64 (r1-1)))) then
 q8_.L2 x1 z0 r2 r1 z2 ((IntKind.wrap .i64 ((IntKind.wrap .i64 (bAnd .u64 r2.1 (IntKind.wrap .u64 (r1-1))))-z0))) k0_0 φ
 else
 q8_.L2 x1 z0 r2 r1 z2 ((IntKind.wrap .i64 (bAnd .u64 r2.1 (IntKind.wrap .u64 (r1-1))))) k0_0 φ)
 else
 φ k0_0)):L1 x1 z0 z1 r1 z2 k0_0 φ:=
 mIn <|
 mAsk 9 h dT dF (fun h=>
 mCal 4 h (fun _ h=>h) fun r2 _ h=>
 mAsk 9 h dT dF (fun h=>
 mFin 8 h) fun h=>
 mFin 3 h) fun h=>
 mRet 2 h
theorem L2_step (x1 z0:Int) (r2:Int×Int) (r1 z1 z2:Int) (k0_0:List Int) (φ:List Int->Prop) (h :
 ∃ a3,lget k0_0 ((IntKind.wrap .i64 (x1+z2)))=some a3 /\
 ∃ a5,lget k0_0 z1=some a5 /\
 ∃ a7,lget ((lset k0_0 z1 a3)) ((IntKind.wrap .i64 (x1+z2)))=some a7 /\
 q8_.L1 x1 z0 r2.2 r1 ((IntKind.wrap .i64 (z1+1))) ((lset (lset k0_0 z1 a3) (IntKind.wrap .i64 (x1+z2)) a5)) φ):L2 x1 z0 r2 r1 z1 z2 k0_0 φ:=
 mIn <|
 mIy 11 (eI .u32) h fun a3 h4 h=>
 mLd 0 (eI .u32) h4 <|
 mIy 2 (eI .u32) h fun a5 h6 h=>
 mLd 0 (eI .u32) h6 <|
 mIyf 0 (eI .u32) h6 <|
 Aeo 0 (eI .u32) a3 h6 <|
 mIy 0 (eI .u32) h fun a7 h8 h=>
 mSto 0 (eI .u32) a5 h8 <|
 mFin 6 h
theorem enter (x1 x2:Int) (k0_0:List Int) (φ:List Int->Prop) (h :
 (if 8<=(IntKind.wrap .i64 (x2-x1)) then
 ∃ r1:Int,q32_.C ((IntKind.wrap .i64 (x2-x1))) r1 /\
 q8_.L1 x1 ((IntKind.wrap .i64 (x2-x1))) ((IntKind.wrap .u64 (IntKind.wrap .i64 (x2-x1)))) r1 ((IntKind.wrap .i64 ((IntKind.wrap .i64 (x1+(IntKind.wrap .i64 ((IntKind.wrap .i64 (Int.tdiv (IntKind.wrap .i64 (x2-x1)) 4))*2))))-1))) k0_0 φ
 else
 φ k0_0)):∃ r,φ r/\C x1 x2 k0_0 r:=
 mEnt (fd:=Tryz.f265) (body:=B) (V:=W) (res:=res) <|
 mAsk 8 h dT dF (fun h=>
 mCal 10 h (fun _ h=>h) fun r1 _ h=>
 mFin 11 h) fun h=>
 mRet 2 h
end q8_
namespace q20_
noncomputable def B:Code:=(Tryz.f217.body).getD .skip
def W:List Nat:=[0,1,2,3,4,10,11,12,13,14,15,16,17,18,19,20,25,32,39,56,75,80,97,125,1000000]
def res (r:List Int):D×List D:=(.tup [],[.own (r.map (eI .u32))])
def C (x1 x2 x3:Int) (k0_0 r:List Int):Prop:=Ret env 217 [.own (k0_0.map (eI .u32)),.lit (.int .i64 x1),.lit (.int .i64 x2),.lit (.int .i64 x3),.fn 179 []] (res r).1 (res r).2
def L1 (x1 x2 x3:Int) (z0 z1:Bool) (k0_0:List Int) (φ:List Int->Prop):Prop:=Pt env 217 W B [1,1,0] [(0,.alias 1000000 []),(1,.lit (.int .i64 x1)),(2,.lit (.int .i64 x2)),(3,.lit (.int .i64 x3)),(4,.fn 179 []),(10,.lit (.bool z0)),(11,.lit (.bool z1)),(1000000,.own (k0_0.map (eI .u32)))] (Lv env 217 Tryz.f217 5 res φ)
def L5 (x1 x2 x3:Int) (z0 z1:Bool) (k0_0:List Int) (φ:List Int->Prop):Prop:=Pt env 217 W B [1,1,0,0,0,1,1,1,1,0] [(0,.alias 1000000 []),(1,.lit (.int .i64 x1)),(2,.lit (.int .i64 x2)),(3,.lit (.int .i64 x3)),(4,.fn 179 []),(10,.lit (.bool z0)),(11,.lit (.bool z1)),(12,.lit (.int .i64 ((IntKind.wrap .i64 (x2-x1))))),(1000000,.own (k0_0.map (eI .u32)))] (Lv env 217 Tryz.f217 5 res φ)
def L4 (x1 x2 x3:Int) (z0 z1:Bool) (z2 z3:Int) (r79:List Int) (φ:List Int->Prop):Prop:=Pt env 217 W B [1,1,0,0,0,1,1,1,1,1,1,0,0] [(0,.alias 1000000 []),(1,.lit (.int .i64 x1)),(2,.lit (.int .i64 x2)),(3,.lit (.int .i64 x3)),(4,.fn 179 []),(10,.lit (.bool z0)),(11,.lit (.bool z1)),(12,.lit (.int .i64 ((IntKind.wrap .i64 (x2-x1))))),(13,.lit (.int .i64 z2)),(14,.lit (.int .i64 z3)),(1000000,.own (r79.map (eI .u32)))] (Lv env 217 Tryz.f217 5 res φ)
def L3 (x1 x2 x3:Int) (z0 z1:Bool) (z2:Int) (z3:List Int) (φ:List Int->Prop):Prop:=Pt env 217 W B [1,1,0,0,0,1,1,1,1,1,1,1,0,0] [(0,.alias 1000000 []),(1,.lit (.int .i64 x1)),(2,.lit (.int .i64 x2)),(3,.lit (.int .i64 x3)),(4,.fn 179 []),(10,.lit (.bool z0)),(11,.lit (.bool z1)),(12,.lit (.int .i64 ((IntKind.wrap .i64 (x2-x1))))),(13,.lit (.int .i64 z2)),(1000000,.own (z3.map (eI .u32)))] (Lv env 217 Tryz.f217 5 res φ)
def L2 (x1 x2:Int) (x3 z0:Int) (z1:List Int) (φ:List Int->Prop):Prop:=Pt env 217 W B [1,1,0,0,0,1,1,1,1,1,1,1,1,0] [(0,.alias 1000000 []),(1,.lit (.int .i64 x1)),(2,.lit (.int .i64 x2)),(3,.lit (.int .i64 x3)),(4,.fn 179 []),(12,.lit (.int .i64 ((IntKind.wrap .i64 (x2-x1))))),(13,.lit (.int .i64 z0)),(1000000,.own (z1.map (eI .u32)))] (Lv env 217 Tryz.f217 5 res φ)
theorem L1_step (x1 x2 x3:Int) (z0 z1:Bool) (k0_0:List Int) (φ:List Int->Prop) (h :
 (if (IntKind.wrap .i64 (x2-x1))<=12 then
 ∃ r100:List Int,q7_.C x1 x2 k0_0 r100 /\
 φ r100
 else
 (if x3=0 then
 ∃ r101:List Int,q19_.C x1 x2 k0_0 r101 /\
 φ r101
 else
 (if z0=true then
 q20_.L5 x1 x2 x3 z0 z1 k0_0 φ
 else
 ∃ r102:List Int,q8_.C x1 x2 k0_0 r102 /\
 q20_.L5 x1 x2 ((IntKind.wrap .i64 (x3-1))) z0 z1 r102 φ)))):L1 x1 x2 x3 z0 z1 k0_0 φ:=
 mIn <|
 mAsk 9 h dT dF (fun h=>
 mCal 7 h (fun _ h=>h) (hf:=(fun _=>Acb (Aaz Aao) (Aae (e:=(eI .u32)) (fun _=>rfl)))) fun r100 _ h=>
 mRet 1 h) fun h=>
 mAsk 5 h Abz Aby (fun h=>
 mCal 7 h (fun _ h=>h) (hf:=(fun _=>Acb (Aaz Aao) (Aae (e:=(eI .u32)) (fun _=>rfl)))) fun r101 _ h=>
 mRet 1 h) fun h=>
 mAsk 4 h id fls (fun h=>
 mFin 4 h) fun h=>
 mCal 8 h (fun _ h=>h) (hf:=(fun _=>Acb (Aaz Aao) (Aae (e:=(eI .u32)) (fun _=>rfl)))) fun r102 _ h=>
 mFin 6 h
theorem L5_step (x1 x2 x3:Int) (z0 z1:Bool) (k0_0:List Int) (φ:List Int->Prop) (h :
 ∃ r103:Int×Int,q13_.C k0_0 x1 x2 r103 /\
 (if r103.2=2 then
 ∃ r104:List Int,q9_.C x1 x2 k0_0 r104 /\
 q20_.L4 x1 x2 x3 z0 z1 ((IntKind.wrap .i64 ((IntKind.wrap .i64 (x2-1))-(IntKind.wrap .i64 (r103.1-x1))))) 1 r104 φ
 else
 q20_.L4 x1 x2 x3 z0 z1 r103.1 r103.2 k0_0 φ)):L5 x1 x2 x3 z0 z1 k0_0 φ:=
 mIn <|
 mCal 5 h (fun _ h=>h) (hr:=by exact (Acp (Ad6 (s:=1000000) (ps:=[]) (l:=k0_0) (e:=(eI .u32)) (e':=(eI .u32)) (fun _=>rfl) (by kernel_rfl)) (pr_k (pr_k (pr_k Ae0))))) (hf:=(fun _=>Aai (Aaz (Aa4 rfl (Aa4 rfl Aao))) rfl)) fun r103 _ h=>
 mAsk 8 h Abz Aby (fun h=>
 mCal 7 h (fun _ h=>h) (hf:=(fun _=>Acb (Aaz Aao) (Aae (e:=(eI .u32)) (fun _=>rfl)))) fun r104 _ h=>
 mFin 13 h) fun h=>
 mFin 3 h
theorem L4_step (x1 x2 x3:Int) (z0 z1:Bool) (z2 z3:Int) (r79:List Int) (φ:List Int->Prop) (h :
 (if z0=true then
 (if z1=true then
 (if z3=1 then
 ∃ r105:Bool×List Int,q1_.C x1 x2 r79 r105 /\
 (if r105.1=true then
 φ r105.2
 else
 q20_.L3 x1 x2 x3 z0 z1 z2 r105.2 φ)
 else
 q20_.L3 x1 x2 x3 z0 z1 z2 r79 φ)
 else
 q20_.L3 x1 x2 x3 z0 z1 z2 r79 φ)
 else
 q20_.L3 x1 x2 x3 z0 z1 z2 r79 φ)):L4 x1 x2 x3 z0 z1 z2 z3 r79 φ:=
 mIn <|
 mAsk 1 h id fls (fun h=>
 mAsk 1 h id fls (fun h=>
 mAsk 3 h Abz Aby (fun h=>
 mCal 8 h (fun _ h=>h) (hf:=(fun _=>Acb rfl (Aae (e:=(eI .u32)) (fun _=>rfl)))) fun r105 _ h=>
 mCon 1 h id fls (fun h=>
 mRet 0 h) fun h=>
 mFin 1 h) fun h=>
 mFin 4 h) fun h=>
 mFin 8 h) fun h=>
 mFin 10 h
theorem L3_step (x1 x2 x3:Int) (z0 z1:Bool) (z2:Int) (z3:List Int) (φ:List Int->Prop) (h :
 (if 0<x1 then
 ∃ a106,lget z3 ((IntKind.wrap .i64 (x1-1)))=some a106 /\
 ∃ a108,lget z3 z2=some a108 /\
 ∃ r110:Int,q54_.C a106 a108 r110 /\
 (if r110<0 then
 q20_.L2 x1 x2 x3 z2 z3 φ
 else
 ∃ r111:Int×List Int,q5_.C x1 x2 z2 z3 r111 /\
 q20_.L1 r111.1 x2 x3 z0 z1 r111.2 φ)
 else
 q20_.L2 x1 x2 x3 z2 z3 φ)):L3 x1 x2 x3 z0 z1 z2 z3 φ:=
 mIn <|
 mAsk 2 h dT dF (fun h=>
 mIy 5 (eI .u32) h fun a106 h107 h=>
 mLd 0 (eI .u32) h107 <|
 mIy 2 (eI .u32) h fun a108 h109 h=>
 mLd 0 (eI .u32) h109 <|
 mCal 0 h (fun _ h=>h) fun r110 _ h=>
 mAsk 0 h dT dF (fun h=>
 mFin 5 h) fun h=>
 mCal 10 h (fun _ h=>h) (hf:=(fun _=>Acb rfl (Aae (e:=(eI .u32)) (fun _=>rfl)))) fun r111 _ h=>
 mFin 7 h) fun h=>
 mFin 18 h
theorem L2_step (x1 x2:Int) (x3 z0:Int) (z1:List Int) (φ:List Int->Prop) (h :
 ∃ r112:Int×Bool×List Int,q15_.C x1 x2 z0 z1 r112 /\
 (if (IntKind.wrap .i64 (r112.1-x1))<(IntKind.wrap .i64 (x2-r112.1)) then
 ∃ r113:List Int,q20_.C x1 r112.1 x3 r112.2.2 r113 /\
 q20_.L1 ((IntKind.wrap .i64 (r112.1+1))) x2 x3 ((decide ((IntKind.wrap .i64 (Int.tdiv (IntKind.wrap .i64 (x2-x1)) 8))<=(IntKind.wrap .i64 (r112.1-x1))))) r112.2.1 r113 φ
 else
 ∃ r114:List Int,q20_.C ((IntKind.wrap .i64 (r112.1+1))) x2 x3 r112.2.2 r114 /\
 q20_.L1 x1 r112.1 x3 ((decide ((IntKind.wrap .i64 (Int.tdiv (IntKind.wrap .i64 (x2-x1)) 8))<=(IntKind.wrap .i64 (x2-r112.1))))) r112.2.1 r114 φ)):L2 x1 x2 x3 z0 z1 φ:=
 mIn <|
 mCal 6 h (fun _ h=>h) (hf:=(fun _=>Acb (Aaz (Aa4 rfl (Aa4 rfl Aao))) (Aae (e:=(eI .u32)) (fun _=>rfl)))) fun r112 _ h=>
 mAsk 28 h dT dF (fun h=>
 mCal 14 h (fun _ h=>h) (hf:=(fun _=>Acb (Aaz Aao) (Aae (e:=(eI .u32)) (fun _=>rfl)))) fun r113 _ h=>
 mFin 6 h) fun h=>
 mCal 15 h (fun _ h=>h) (hf:=(fun _=>Acb (Aaz Aao) (Aae (e:=(eI .u32)) (fun _=>rfl)))) fun r114 _ h=>
 mFin 5 h
theorem enter (x1 x2 x3:Int) (k0_0:List Int) (φ:List Int->Prop) (h :
 q20_.L1 x1 x2 x3 true true k0_0 φ):∃ r,φ r/\C x1 x2 x3 k0_0 r:=
 mEnt (fd:=Tryz.f217) (body:=B) (V:=W) (res:=res) <|
 mFin 6 h
end q20_
namespace q14_
noncomputable def B:Code:=(Tryz.f178.body).getD .skip
def W:List Nat:=[0,1,4,1000000]
def res (r:List Int):D×List D:=(.tup [],[.own (r.map (eI .u32))])
def C (k0_0 r:List Int):Prop:=Ret env 178 [.own (k0_0.map (eI .u32)),.fn 179 []] (res r).1 (res r).2
theorem enter (k0_0:List Int) (φ:List Int->Prop) (h :
 ∃ r1:Int,q73_.C ((IntKind.wrap .u64 (k0_0.length:Int))) r1 /\
 ∃ r2:List Int,q20_.C 0 ((k0_0.length:Int)) r1 k0_0 r2 /\
 φ r2):∃ r,φ r/\C k0_0 r:=
 mEnt (fd:=Tryz.f178) (body:=B) (V:=W) (res:=res) <|
 mLen 2 (eI .u32) k0_0 <|
 mCal 7 h (fun _ h=>h) fun r1 _ h=>
 mCal 1 h (fun _ h=>h) (hf:=(fun _=>Acb (Aaz Aao) (Aae (e:=(eI .u32)) (fun _=>rfl)))) fun r2 _ h=>
 mRet 0 h
end q14_
namespace q23_
noncomputable def B:Code:=(Tryz.f180.body).getD .skip
def W:List Nat:=[0,2,3,4,5,8,13,25,32,44]
def res (r:(List Int×Bool)):D×List D:=((sown (r.1.map (eI .u32)) r.2),[])
def C (k0_0:List Int) (r:(List Int×Bool)):Prop:=Ret env 180 [.own (k0_0.map (eI .u32))] (res r).1 (res r).2
def L1 (k0_0:List Int) (z0:Int) (φ:(List Int×Bool)->Prop):Prop:=Pt env 180 W B [1,1,0,1,0] [(0,.own (k0_0.map (eI .u32))),(3,.lit (.int .i64 z0))] (Lv env 180 Tryz.f180 1 res φ)
def L2 (k0_0:List Int) (z0:Int) (y4_o_L2 y4_n_L2:Nat) (z1:Int) (φ:(List Int×Bool)->Prop):Prop:=Pt env 180 W B [1,1,0,1,0,0,1,0,0,1,0,1,0,1,0] [(0,.own (k0_0.map (eI .u32))),(3,.lit (.int .i64 z0)),(4,.sub 0 [] y4_o_L2 y4_n_L2),(5,.lit (.int .i64 z1))] (Lv env 180 Tryz.f180 1 res φ)
def L3 (z0:List Int) (z1:Int) (y4_o_L2 y4_n_L2:Nat) (z2:Int) (φ:(List Int×Bool)->Prop):Prop:=Pt env 180 W B [1,1,0,1,0,0,1,0,0,1,0,1,0,1,0,0,1,1] [(0,.own (z0.map (eI .u32))),(3,.lit (.int .i64 z1)),(4,.sub 0 [] y4_o_L2 y4_n_L2),(5,.lit (.int .i64 z2))] (Lv env 180 Tryz.f180 1 res φ)
theorem L1_step (k0_0:List Int) (z0:Int) (φ:(List Int×Bool)->Prop) (h :
 (if z0<(k0_0.length:Int) then
 ∃ a1,lget k0_0 z0=some a1 /\
 ∃ a3,lget k0_0 ((IntKind.wrap .i64 (z0-1)))=some a3 /\
 (if a1=a3 then
 0<=z0 /\
 (z0.toNat<=k0_0.length/\k0_0.length<=k0_0.length) /\
 q23_.L2 k0_0 z0 z0.toNat ((k0_0.length-z0.toNat)) 1 φ
 else
 q23_.L1 k0_0 ((IntKind.wrap .i64 (z0+1))) φ)
 else
 φ (⟨k0_0,true⟩))):L1 k0_0 z0 φ:=
 mIn <|
 mLen 4 (eI .u32) k0_0 <|
 mAsk 0 h dT dF (fun h=>
 mIy 6 (eI .u32) h fun a1 h2 h=>
 mLd 0 (eI .u32) h2 <|
 mIy 3 (eI .u32) h fun a3 h4 h=>
 mLd 0 (eI .u32) h4 <|
 mAsk 0 h Abz Aby (fun h=>
 h.elim fun h5 h=>
 h.elim fun h6 h=>
 mVl 5 (Akh (s:=0) (ps:=[]) (t:=59) (x:=(.tmp 26)) (lo:=(some (.tmp 27))) (hi:=none) (lo':=some (z0).toNat) (hi':=none) (e:=(eI .u32)) (l:=k0_0) (et:=35) (k:=1) (by kernel_rfl) (by kernel_rfl) (Afv (by kernel_rfl)) (Acw (i:=z0) (q:=.i64) (by kernel_rfl) h5) Adm (by kernel_rfl) (by kernel_rfl) (fun _=>rfl) (by kernel_rfl) h6.1 h6.2) <|
 mFin 5 h) fun h=>
 mFin 8 h) fun h=>
 mRet 7 h
theorem L2_step (k0_0:List Int) (z0:Int) (y4_o_L2 y4_n_L2:Nat) (z1:Int) (φ:(List Int×Bool)->Prop) (h :
 y4_o_L2+y4_n_L2<=k0_0.length /\
 (if z1<((List.take y4_n_L2 (List.drop y4_o_L2 k0_0)).length:Int) then
 ∃ a10,lget k0_0 (((y4_o_L2:Int)+z1))=some a10 /\
 (0<=z1/\z1<((y4_n_L2:Nat):Int)) /\
 y4_o_L2+y4_n_L2<=k0_0.length /\
 ∃ a14,lget k0_0 (((y4_o_L2:Int)+(IntKind.wrap .i64 (z1-1))))=some a14 /\
 (0<=(IntKind.wrap .i64 (z1-1))/\(IntKind.wrap .i64 (z1-1))<((y4_n_L2:Nat):Int)) /\
 y4_o_L2+y4_n_L2<=k0_0.length /\
 (if a10=a14 then
 q23_.L3 k0_0 z0 y4_o_L2 y4_n_L2 z1 φ
 else
 (0<=z1/\z1<((y4_n_L2:Nat):Int)) /\
 y4_o_L2+y4_n_L2<=k0_0.length /\
 ∃ a18,lget k0_0 z0=some a18 /\
 q23_.L3 ((lset k0_0 z0 a10)) ((IntKind.wrap .i64 (z0+1))) y4_o_L2 y4_n_L2 z1 φ)
 else
 0<=z0 /\
 (z0.toNat<=k0_0.length/\k0_0.length<=k0_0.length) /\
 z0.toNat+(k0_0.length-z0.toNat)<=k0_0.length /\
 0<=z0 /\
 z0.toNat+(k0_0.length-z0.toNat)<=k0_0.length /\
 z0.toNat<=k0_0.length /\
 (z0.toNat+(k0_0.length-z0.toNat)<=k0_0.length/\z0.toNat<=k0_0.length/\z0.toNat<=z0.toNat) /\
 φ (⟨(List.take z0.toNat k0_0),(!(((List.take z0.toNat k0_0)).isEmpty))⟩))):L2 k0_0 z0 y4_o_L2 y4_n_L2 z1 φ:=
 mIn <|
 h.elim fun h7 h=>
 mVl 4 (Bag (x:=(.tmp 30)) (t:=59) (et:=35) (d:=.sub 0 [] y4_o_L2 y4_n_L2) (e:=(eI .u32)) (l:=(List.take y4_n_L2 (List.drop y4_o_L2 k0_0))) (by kernel_rfl) (by kernel_rfl) (Avw (s:=0) (ps:=[]) (l:=k0_0) (e:=(eI .u32)) (by kernel_rfl) h7) (by kernel_rfl)) <|
 mAsk 0 h dT dF (fun h=>
 h.elim fun a10 h=>h.elim fun h11 h=>
 h.elim fun h9 h=>
 h.elim fun h8 h=>
 mVl 6 (Aj1 (s:=0) (ps:=[]) (off:=y4_o_L2) (len:=y4_n_L2) (t:=59) (x:=(.tmp 35)) (ix:=(.tmp 36)) (et:=35) (k:=1) (e:=(eI .u32)) (l:=k0_0) (i:=z1) (q:=.i64) (a:=a10) (by kernel_rfl) (by kernel_rfl) (by kernel_rfl) (by kernel_rfl) (by kernel_rfl) (by kernel_rfl) h8 h9 h11 (by kernel_rfl)) <|
 mLd 0 (eI .u32) h11 <|
 h.elim fun a14 h=>h.elim fun h15 h=>
 h.elim fun h13 h=>
 h.elim fun h12 h=>
 mVl 3 (Aj1 (s:=0) (ps:=[]) (off:=y4_o_L2) (len:=y4_n_L2) (t:=59) (x:=(.tmp 39)) (ix:=(.tmp 41)) (et:=35) (k:=1) (e:=(eI .u32)) (l:=k0_0) (i:=(IntKind.wrap .i64 (z1-1))) (q:=.i64) (a:=a14) (by kernel_rfl) (by kernel_rfl) (by kernel_rfl) (by kernel_rfl) (by kernel_rfl) (by kernel_rfl) h12 h13 h15 (by kernel_rfl)) <|
 mLd 0 (eI .u32) h15 <|
 Ab7 0 h Ab6 Ab5 (fun h=>
 h.elim fun h17 h=>
 h.elim fun h16 h=>
 mVl 7 (Aj1 (s:=0) (ps:=[]) (off:=y4_o_L2) (len:=y4_n_L2) (t:=59) (x:=(.tmp 47)) (ix:=(.tmp 48)) (et:=35) (k:=1) (e:=(eI .u32)) (l:=k0_0) (i:=z1) (q:=.i64) (a:=a10) (by kernel_rfl) (by kernel_rfl) (by kernel_rfl) (by kernel_rfl) (by kernel_rfl) (by kernel_rfl) h16 h17 h11 (by kernel_rfl)) <|
 mLd 0 (eI .u32) h11 <|
 mIy 0 (eI .u32) h fun a18 h19 h=>
 mSto 0 (eI .u32) a10 h19 <|
 mFin 6 h) fun h=>
 mFin 3 h) fun h=>
 h.elim fun h20 h=>
 h.elim fun h21 h=>
 mVl 6 (Akh (s:=0) (ps:=[]) (t:=59) (x:=(.tmp 54)) (lo:=(some (.tmp 55))) (hi:=none) (lo':=some (z0).toNat) (hi':=none) (e:=(eI .u32)) (l:=k0_0) (et:=35) (k:=1) (by kernel_rfl) (by kernel_rfl) (Afv (by kernel_rfl)) (Acw (i:=z0) (q:=.i64) (by kernel_rfl) h20) Adm (by kernel_rfl) (by kernel_rfl) (fun _=>rfl) (by kernel_rfl) h21.1 h21.2) <|
 h.elim fun h22 h=>
 mOp 0 (Axy (t:=59) (x:=(.tmp 56)) (s:=0) (ps:=[]) (off:=z0.toNat) (len:=(k0_0.length-z0.toNat)) (l:=k0_0) (e:=(eI .u32)) (et:=35) (z:=.lit (.int .u32 0)) (k:=1) (by kernel_rfl) (by kernel_rfl) (by kernel_rfl) (by kernel_rfl) (by kernel_rfl) (by kernel_rfl) (by kernel_rfl) (by kernel_rfl) (fun _=>rfl) h22 (by kernel_rfl)) <|
 h.elim fun h23 h=>
 h.elim fun h24 h=>
 h.elim fun h25 h=>
 mVl 4 (Ant (t:=59) (x:=(.tmp 57)) (hi:=(some (.tmp 58))) (hi':=z0.toNat) (e:=(eI .u32)) (l:=k0_0) (off:=z0.toNat) (len:=(k0_0.length-z0.toNat)) (z:=.lit (.int .u32 0)) (et:=35) (k:=1) (s:=0) (ps:=[]) (by kernel_rfl) (by kernel_rfl) (by kernel_rfl) (Acw (i:=z0) (q:=.i64) (by kernel_rfl) h23) (by kernel_rfl) (by kernel_rfl) (fun _=>rfl) (by kernel_rfl) (by kernel_rfl) h24 h25) <|
 h.elim fun h26 h=>
 mRet 2 h (hl:=(Av7 (t:=2) (s:=0) (n:=z0.toNat) (m:=(List.take z0.toNat k0_0)) (e:=(eI .u32)) (es:=clr (eI .u32) k0_0 z0.toNat (k0_0.length-z0.toNat) (.lit (.int .u32 0))) (by kernel_rfl) (by kernel_rfl) (by kernel_rfl) (by rw [Ati (by first | exact h26.1 | omega)];exact h26.2.1) (Awz h26.1 h26.2.2) (by kernel_rfl)))
theorem L3_step (z0:List Int) (z1:Int) (y4_o_L2 y4_n_L2:Nat) (z2:Int) (φ:(List Int×Bool)->Prop) (h :
 q23_.L2 z0 z1 y4_o_L2 y4_n_L2 ((IntKind.wrap .i64 (z2+1))) φ):L3 z0 z1 y4_o_L2 y4_n_L2 z2 φ:=
 mIn <|
 mFin 5 h
theorem enter (k0_0:List Int) (φ:(List Int×Bool)->Prop) (h :
 (if (k0_0.length:Int)<2 then
 φ (⟨k0_0,true⟩)
 else
 q23_.L1 k0_0 1 φ)):∃ r,φ r/\C k0_0 r:=
 mEnt (fd:=Tryz.f180) (body:=B) (V:=W) (res:=res) <|
 mLen 5 (eI .u32) k0_0 <|
 mAsk 0 h dT dF (fun h=>
 mRet 6 h) fun h=>
 mFin 6 h
end q23_
namespace q74_
noncomputable def B:Code:=(Tryz.f123.body).getD .skip
def W:List Nat:=[0,2,3]
def res (r:List Int):D×List D:=(.sl (r.map (eI .u32)),[])
def C (x0 r:List Int):Prop:=Ret env 123 [.sl (x0.map (eI .u32))] (res r).1 (res r).2
theorem enter (x0:List Int) (φ:List Int->Prop) (h :
 x0.length*4<=140737488355328 /\
 ∃ r2:List Int,q14_.C x0 r2 /\
 ∃ r3:(List Int×Bool),q23_.C r2 r3 /\
 φ r3.1):∃ r,φ r/\C x0 r:=
 mEnt (fd:=Tryz.f123) (body:=B) (V:=W) (res:=res) <|
 h.elim fun h1 h=>
 Asl 5 (show Ret env 129 [.sl (x0.map (eI .u32))] (.own (x0.map (eI .u32))) [] from Be5 (k:=1) (b:=4) (e:=(eI .u32)) (l:=x0) (by kernel_rfl) (fun _=>rfl) h1) (hf:=(Aai (Aae (e:=(eI .u32)) (fun _=>rfl)) rfl)) <|
 mCal 4 h (fun _ h=>h) (hf:=(fun _=>Acb (Aaz Aao) (Aae (e:=(eI .u32)) (fun _=>rfl)))) fun r2 _ h=>
 Akw 3 h (fun _ h=>h) (fun (r3:(List Int×Bool))=>Aul (l:=r3.1) (e:=(eI .u32)) rfl (fun _=>rfl)) (hf:=(fun _=>Bd0 (Bde (e:=(eI .u32)) (fun _=>rfl)) rfl)) fun r3 _ h=>
 mRet 2 h
end q74_
namespace q56_
noncomputable def B:Code:=(Tryz.f71.body).getD .skip
def W:List Nat:=[0,2,3,4,7,12]
def res (r:List Int):D×List D:=(.sl (r.map (eI .u32)),[])
def C (x0:Int) (r:List Int):Prop:=Ret env 71 [.lit (.int .u32 x0)] (res r).1 (res r).2
def L1 (x0:Int) (z0:List Int) (z1:Int) (φ:List Int->Prop):Prop:=Pt env 71 W B [1,1,1,0,1,0] [(0,.lit (.int .u32 x0)),(3,.own (z0.map (eI .u32))),(4,.lit (.int .u32 z1))] (Lv env 71 Tryz.f71 1 res φ)
theorem L1_step (x0:Int) (z0:List Int) (z1:Int) (φ:List Int->Prop) (h :
 (if z1=0 then
 ∃ r3:List Int,q74_.C z0 r3 /\
 φ r3
 else
 (z0.length+1)*4<=140737488355328 /\
 q56_.L1 x0 ((z0++[(bAnd .u32 (IntKind.wrap .u32 (z1-1)) x0)])) ((bAnd .u32 (IntKind.wrap .u32 (z1-1)) x0)) φ)):L1 x0 z0 z1 φ:=
 mIn <|
 Ab7 3 h Ab6 Ab5 (fun h=>
 mApp 14 (eI .u32) z0 ([(bAnd .u32 (IntKind.wrap .u32 (z1-1)) x0)]) h fun h=>
 mFin 2 h) fun h=>
 mXit 2 [(3,.sl (z0.map (eI .u32)))] (Aln (F0:=[(3,.own (z0.map (eI .u32)))]) (l:=z0) (e:=(eI .u32)) (e':=(eI .u32)) (s:=3) (by kernel_rfl) (by kernel_rfl) (by kernel_rfl) (fun _=>rfl) (by kernel_rfl) (by kernel_rfl)) <|
 mCal 2 h (fun _ h=>h) (hf:=(fun _=>Adr)) fun r3 _ h=>
 mRet 2 h
theorem enter (x0:Int) (φ:List Int->Prop) (h :
 ∃ r1:Int,q79_.C x0 r1 /\
 (if 12<r1 then
 φ ([])
 else
 q56_.L1 x0 ([x0]) x0 φ)):∃ r,φ r/\C x0 r:=
 mEnt (fd:=Tryz.f71) (body:=B) (V:=W) (res:=res) <|
 mCal 5 h (fun _ h=>h) fun r1 _ h=>
 mAsk 0 h dT dF (fun h=>
 mRet 5 h) fun h=>
 mFin 12 h
end q56_
namespace q75_
noncomputable def B:Code:=(Tryz.f16.body).getD .skip
def W:List Nat:=[0,1,4,5,7,9,10,11,12,19,27]
def res (r:Int):D×List D:=(.lit (.int .u32 r),[])
def C (x0:List api_FD) (x1 r:Int):Prop:=Ret env 16 [.sl (x0.map Aa1),.lit (.int .u32 x1)] (res r).1 (res r).2
def L1 (x0:List api_FD) (x1:Int) (φ:Int->Prop):Prop:=Pt env 16 W B [1,0] [(0,.sl (x0.map Aa1)),(1,.lit (.int .u32 x1))] (Lv env 16 Tryz.f16 2 res φ)
def L2 (x0:List api_FD) (x1 z0 z1:Int) (φ:Int->Prop):Prop:=Pt env 16 W B [1,0,0,0,1,0,1,0] [(0,.sl (x0.map Aa1)),(1,.lit (.int .u32 x1)),(5,.lit (.int .u32 z0)),(9,.sl (x0.map Aa1)),(10,.lit (.int .i64 ((x0.length:Int)))),(11,.lit (.int .i64 z1))] (Lv env 16 Tryz.f16 2 res φ)
def L3 (x0:List api_FD) (z0 z1 z2:Int) (φ:Int->Prop):Prop:=Pt env 16 W B [1,0,0,0,1,0,1,0,0,1,1,1] [(0,.sl (x0.map Aa1)),(1,.lit (.int .u32 z0)),(5,.lit (.int .u32 z1)),(9,.sl (x0.map Aa1)),(10,.lit (.int .i64 ((x0.length:Int)))),(11,.lit (.int .i64 z2))] (Lv env 16 Tryz.f16 2 res φ)
theorem L1_step (x0:List api_FD) (x1:Int) (φ:Int->Prop) (h :
 q75_.L2 x0 x1 x1 0 φ):L1 x0 x1 φ:=
 mIn <|
 mLen 7 Aa1 x0 <|
 mFin 2 h
theorem L2_step (x0:List api_FD) (x1 z0 z1:Int) (φ:Int->Prop) (h :
 (if z1<(x0.length:Int) then
 ∃ a1,lget x0 z1=some a1 /\
 (if (Aaa .u32 a1.Lhs x1)=0 then
 q75_.L3 x0 ((bOr .u32 x1 a1.Rhs)) z0 z1 φ
 else
 q75_.L3 x0 x1 z0 z1 φ)
 else
 (if x1=z0 then
 φ x1
 else
 q75_.L1 x0 x1 φ))):L2 x0 x1 z0 z1 φ:=
 mIn <|
 mAsk 2 h dT dF (fun h=>
 mIx 4 Aa1 h fun a1 h2 h=>
 mAsk 9 h Abz Aby (fun h=>
 mFin 9 h) fun h=>
 mFin 3 h) fun h=>
 mAsk 6 h Abz Aby (fun h=>
 mRet 6 h) fun h=>
 mFin 3 h
theorem L3_step (x0:List api_FD) (z0 z1 z2:Int) (φ:Int->Prop) (h :
 q75_.L2 x0 z0 z1 ((IntKind.wrap .i64 (z2+1))) φ):L3 x0 z0 z1 z2 φ:=
 mIn <|
 mFin 4 h
theorem enter (x0:List api_FD) (x1:Int) (φ:Int->Prop) (h :
 q75_.L1 x0 x1 φ):∃ r,φ r/\C x0 x1 r:=
 mEnt (fd:=Tryz.f16) (body:=B) (V:=W) (res:=res) <|
 mFin 3 h
end q75_
namespace q45_
noncomputable def B:Code:=(Tryz.f72.body).getD .skip
def W:List Nat:=[0,1,4,5,6,7,8,9,10,25]
def res (r:Int):D×List D:=(.lit (.int .i64 r),[])
def C (x0:List api_FD) (x1 r:Int):Prop:=Ret env 72 [.sl (x0.map Aa1),.lit (.int .u32 x1)] (res r).1 (res r).2
def L1 (x0:List api_FD) (x1 z0:Int) (φ:Int->Prop):Prop:=Pt env 72 W B [1,0,1,0] [(0,.sl (x0.map Aa1)),(1,.lit (.int .u32 x1)),(7,.sl (x0.map Aa1)),(8,.lit (.int .i64 ((x0.length:Int)))),(9,.lit (.int .i64 z0))] (Lv env 72 Tryz.f72 2 res φ)
def L2 (x0:List api_FD) (x1 z0:Int) (φ:Int->Prop):Prop:=Pt env 72 W B [1,0,1,0,0,1,1,1] [(0,.sl (x0.map Aa1)),(1,.lit (.int .u32 x1)),(7,.sl (x0.map Aa1)),(8,.lit (.int .i64 ((x0.length:Int)))),(9,.lit (.int .i64 z0))] (Lv env 72 Tryz.f72 2 res φ)
theorem L1_step (x0:List api_FD) (x1 z0:Int) (φ:Int->Prop) (h :
 (if z0<(x0.length:Int) then
 ∃ a1,lget x0 z0=some a1 /\
 (if (Aaa .u32 a1.Lhs x1)=0 then
 (if (Aaa .u32 a1.Rhs x1)=0 then
 q45_.L2 x0 x1 z0 φ
 else
 φ z0)
 else
 q45_.L2 x0 x1 z0 φ)
 else
 φ ((-1)))):L1 x0 x1 z0 φ:=
 mIn <|
 mAsk 2 h dT dF (fun h=>
 mIx 5 Aa1 h fun a1 h2 h=>
 mAsk 10 h Abz Aby (fun h=>
 Ab7 5 h Ab6 Ab5 (fun h=>
 mRet 7 h) fun h=>
 mFin 4 h) fun h=>
 mFin 10 h) fun h=>
 mRet 6 h
theorem L2_step (x0:List api_FD) (x1 z0:Int) (φ:Int->Prop) (h :
 q45_.L1 x0 x1 ((IntKind.wrap .i64 (z0+1))) φ):L2 x0 x1 z0 φ:=
 mIn <|
 mFin 4 h
theorem enter (x0:List api_FD) (x1:Int) (φ:Int->Prop) (h :
 q45_.L1 x0 x1 0 φ):∃ r,φ r/\C x0 x1 r:=
 mEnt (fd:=Tryz.f72) (body:=B) (V:=W) (res:=res) <|
 mLen 5 Aa1 x0 <|
 mFin 2 h
end q45_
namespace q68_
noncomputable def B:Code:=(Tryz.f22.body).getD .skip
def W:List Nat:=[0,1,4,5,6,7,9,10,17,24,29,30,31,32,38]
def res (r:List Int×Int):D×List D:=(.tup [.own (r.1.map (eI .u32)),.lit (.int .i64 r.2)],[])
def C (x0:Int) (x1:List api_FD) (r:List Int×Int):Prop:=Ret env 22 [.lit (.int .i64 x0),.sl (x1.map Aa1)] (res r).1 (res r).2
def L1 (x1:List api_FD) (z0 r3:List Int) (z1:Int) (φ:List Int×Int->Prop):Prop:=Pt env 22 W B [1,1,1,1,0,1,0] [(1,.sl (x1.map Aa1)),(7,.own (z0.map (eI .u32))),(29,.sl (r3.map (eI .u32))),(30,.lit (.int .i64 ((r3.length:Int)))),(31,.lit (.int .i64 z1))] (Lv env 22 Tryz.f22 2 res φ)
def L2 (x1:List api_FD) (z0 r3:List Int) (z1:Int) (φ:List Int×Int->Prop):Prop:=Pt env 22 W B [1,1,1,1,0,1,0,0,1,1,1] [(1,.sl (x1.map Aa1)),(7,.own (z0.map (eI .u32))),(29,.sl (r3.map (eI .u32))),(30,.lit (.int .i64 ((r3.length:Int)))),(31,.lit (.int .i64 z1))] (Lv env 22 Tryz.f22 2 res φ)
theorem L1_step (x1:List api_FD) (z0 r3:List Int) (z1:Int) (φ:List Int×Int->Prop) (h :
 (if z1<(r3.length:Int) then
 ∃ a4,lget r3 z1=some a4 /\
 ∃ r6:Int,q45_.C x1 a4 r6 /\
 (if r6<0 then
 (z0.length+1)*4<=140737488355328 /\
 q68_.L2 x1 ((z0++[a4])) r3 z1 φ
 else
 q68_.L2 x1 z0 r3 z1 φ)
 else
 φ ((z0,0)))):L1 x1 z0 r3 z1 φ:=
 mIn <|
 mAsk 2 h dT dF (fun h=>
 mIx 4 (eI .u32) h fun a4 h5 h=>
 mCal 6 h (fun _ h=>h) fun r6 _ h=>
 mAsk 0 h dT dF (fun h=>
 mApp 6 (eI .u32) z0 ([a4]) h fun h=>
 mFin 2 h) fun h=>
 mFin 3 h) fun h=>
 mRet 8 h
theorem L2_step (x1:List api_FD) (z0 r3:List Int) (z1:Int) (φ:List Int×Int->Prop) (h :
 q68_.L1 x1 z0 r3 ((IntKind.wrap .i64 (z1+1))) φ):L2 x1 z0 r3 z1 φ:=
 mIn <|
 mFin 4 h
theorem enter (x0:Int) (x1:List api_FD) (φ:List Int×Int->Prop) (h :
 (if x0<0 then
 φ (([],7))
 else
 (if 16<x0 then
 φ (([],7))
 else
 (if 12<x0 then
 φ (([],3))
 else
 ∃ r1:Int,q71_.C x0 x1 r1 /\
 (if r1=0 then
 0<=x0 /\
 ∃ r3:List Int,q56_.C ((IntKind.wrap .u32 ((shlw .u32 1 x0)-1))) r3 /\
 q68_.L1 x1 ([]) r3 0 φ
 else
 φ (([],r1))))))):∃ r,φ r/\C x0 x1 r:=
 mEnt (fd:=Tryz.f22) (body:=B) (V:=W) (res:=res) <|
 mAsk 6 h dT dF (fun h=>
 mRet 11 h) fun h=>
 mCon 6 h dT dF (fun h=>
 mRet 4 h) fun h=>
 mCon 5 h dT dF (fun h=>
 mRet 4 h) fun h=>
 mCal 4 h (fun _ h=>h) fun r1 _ h=>
 Ab7 4 h Ab6 Ab5 (fun h=>
 mRet 7 h) fun h=>
 h.elim fun h2 h=>
 mBi 8 (Adt (t:=35) (q:=.u32) (q':=.i64) (i1:=1) h2) <|
 mCal 1 h (fun _ h=>h) (hf:=(fun _=>Adr)) fun r3 _ h=>
 mLen 0 (eI .u32) r3 <|
 mFin 2 h
end q68_
namespace q57_
noncomputable def B:Code:=(Tryz.f149.body).getD .skip
def W:List Nat:=[0,1,4,5,10,13]
def res (r:Int):D×List D:=(.lit (.int .i64 r),[])
def C (x0:Int) (x1:List api_FD) (r:Int):Prop:=Ret env 149 [.lit (.int .i64 x0),.sl (x1.map Aa1)] (res r).1 (res r).2
theorem enter (x0:Int) (x1:List api_FD) (φ:Int->Prop) (h :
 ∃ r1:Int,q71_.C x0 x1 r1 /\
 (if r1=0 then
 (if 10<x0 then
 φ 3
 else
 φ 0)
 else
 φ r1)):∃ r,φ r/\C x0 x1 r:=
 mEnt (fd:=Tryz.f149) (body:=B) (V:=W) (res:=res) <|
 mCal 6 h (fun _ h=>h) fun r1 _ h=>
 Ab7 4 h Ab6 Ab5 (fun h=>
 mRet 6 h) fun h=>
 mAsk 5 h dT dF (fun h=>
 mRet 5 h) fun h=>
 mRet 6 h
end q57_
namespace q69_
noncomputable def B:Code:=(Tryz.f76.body).getD .skip
def W:List Nat:=[0,2]
def res (r:Int):D×List D:=(.lit (.int .u32 r),[])
def C (x0 r:Int):Prop:=Ret env 76 [.lit (.int .i64 x0)] (res r).1 (res r).2
theorem enter (x0:Int) (φ:Int->Prop) (h :
 0<=x0 /\
 φ ((IntKind.wrap .u32 ((shlw .u32 1 x0)-1)))):∃ r,φ r/\C x0 r:=
 mEnt (fd:=Tryz.f76) (body:=B) (V:=W) (res:=res) <|
 h.elim fun h1 h=>
 mBi 5 (Adt (t:=35) (q:=.u32) (q':=.i64) (i1:=1) h1) <|
 mRet 3 h
end q69_
namespace q33_
noncomputable def B:Code:=(Tryz.f75.body).getD .skip
def W:List Nat:=[0,1,4,5,6,7,8,9,11,12,14,19,28,30,31,32,33,38,39,40,41,53,66]
def res (r:List Int×Int):D×List D:=(.tup [.own (r.1.map (eI .u32)),.lit (.int .i64 r.2)],[])
def C (x0:Int) (x1:List api_FD) (r:List Int×Int):Prop:=Ret env 75 [.lit (.int .i64 x0),.sl (x1.map Aa1)] (res r).1 (res r).2
def L1 (x0:Int) (r2:List Int×Int) (z0:List Int) (z1:Int) (φ:List Int×Int->Prop):Prop:=Pt env 75 W B [1,1,1,1,1,0,1,0] [(0,.lit (.int .i64 x0)),(7,.own (r2.1.map (eI .u32))),(9,.own (z0.map (eI .u32))),(30,.alias 7 []),(31,.lit (.int .i64 ((r2.1.length:Int)))),(32,.lit (.int .i64 z1))] (Lv env 75 Tryz.f75 2 res φ)
def L2 (x0:Int) (r2:List Int×Int) (z0:List Int) (a3 r5:Int) (z1 z2:Int) (φ:List Int×Int->Prop):Prop:=Pt env 75 W B [1,1,1,1,1,0,1,0,0,1,1,0,0,1,1,0,1,0] [(0,.lit (.int .i64 x0)),(7,.own (r2.1.map (eI .u32))),(9,.own (z0.map (eI .u32))),(11,.lit (.int .u32 a3)),(12,.lit (.int .u32 r5)),(30,.alias 7 []),(31,.lit (.int .i64 ((r2.1.length:Int)))),(32,.lit (.int .i64 z1)),(38,.alias 7 []),(39,.lit (.int .i64 ((r2.1.length:Int)))),(40,.lit (.int .i64 z2))] (Lv env 75 Tryz.f75 2 res φ)
def L3 (x0:Int) (r2:List Int×Int) (z0:List Int) (a3 z1:Int) (z2 z3:Int) (φ:List Int×Int->Prop):Prop:=Pt env 75 W B [1,1,1,1,1,0,1,0,0,1,1,0,0,1,1,0,1,0,0,1,1,1] [(0,.lit (.int .i64 x0)),(7,.own (r2.1.map (eI .u32))),(9,.own (z0.map (eI .u32))),(11,.lit (.int .u32 a3)),(12,.lit (.int .u32 z1)),(30,.alias 7 []),(31,.lit (.int .i64 ((r2.1.length:Int)))),(32,.lit (.int .i64 z2)),(38,.alias 7 []),(39,.lit (.int .i64 ((r2.1.length:Int)))),(40,.lit (.int .i64 z3))] (Lv env 75 Tryz.f75 2 res φ)
def L4 (x0:Int) (r2:List Int×Int) (z0:List Int) (z1:Int) (φ:List Int×Int->Prop):Prop:=Pt env 75 W B [1,1,1,1,1,0,1,0,0,1,1,1] [(0,.lit (.int .i64 x0)),(7,.own (r2.1.map (eI .u32))),(9,.own (z0.map (eI .u32))),(30,.alias 7 []),(31,.lit (.int .i64 ((r2.1.length:Int)))),(32,.lit (.int .i64 z1))] (Lv env 75 Tryz.f75 2 res φ)
theorem L1_step (x0:Int) (r2:List Int×Int) (z0:List Int) (z1:Int) (φ:List Int×Int->Prop) (h :
 (if z1<(r2.1.length:Int) then
 ∃ a3,lget r2.1 z1=some a3 /\
 ∃ r5:Int,q69_.C x0 r5 /\
 q33_.L2 x0 r2 z0 a3 r5 z1 0 φ
 else
 φ ((z0,0)))):L1 x0 r2 z0 z1 φ:=
 mIn <|
 mAsk 2 h dT dF (fun h=>
 mIy 4 (eI .u32) h fun a3 h4 h=>
 mLd 0 (eI .u32) h4 <|
 mCal 4 h (fun _ h=>h) fun r5 _ h=>
 mLen 4 (eI .u32) r2.1 <|
 mFin 2 h) fun h=>
 mRet 8 h
theorem L2_step (x0:Int) (r2:List Int×Int) (z0:List Int) (a3 r5:Int) (z1 z2:Int) (φ:List Int×Int->Prop) (h :
 (if z2<(r2.1.length:Int) then
 ∃ a6,lget r2.1 z2=some a6 /\
 (if a6=a3 then
 q33_.L3 x0 r2 z0 a3 r5 z1 z2 φ
 else
 (if (bAnd .u32 a6 a3)=a3 then
 q33_.L3 x0 r2 z0 a3 ((bAnd .u32 r5 a6)) z1 z2 φ
 else
 q33_.L3 x0 r2 z0 a3 r5 z1 z2 φ))
 else
 ∃ r8:Int,q69_.C x0 r8 /\
 (if a3=r8 then
 q33_.L4 x0 r2 z0 z1 φ
 else
 (if r5=a3 then
 q33_.L4 x0 r2 z0 z1 φ
 else
 (z0.length+1)*4<=140737488355328 /\
 q33_.L4 x0 r2 ((z0++[a3])) z1 φ)))):L2 x0 r2 z0 a3 r5 z1 z2 φ:=
 mIn <|
 mAsk 2 h dT dF (fun h=>
 mIy 4 (eI .u32) h fun a6 h7 h=>
 mLd 0 (eI .u32) h7 <|
 Ab7 5 h Ab6 Ab5 (fun h=>
 mAsk 5 h Abz Aby (fun h=>
 mFin 9 h) fun h=>
 mFin 4 h) fun h=>
 mFin 10 h) fun h=>
 mCal 6 h (fun _ h=>h) fun r8 _ h=>
 Ab7 0 h Ab6 Ab5 (fun h=>
 Ab7 3 h Ab6 Ab5 (fun h=>
 mApp 7 (eI .u32) z0 ([a3]) h fun h=>
 mFin 2 h) fun h=>
 mFin 4 h) fun h=>
 mFin 8 h
theorem L3_step (x0:Int) (r2:List Int×Int) (z0:List Int) (a3 z1:Int) (z2 z3:Int) (φ:List Int×Int->Prop) (h :
 q33_.L2 x0 r2 z0 a3 z1 z2 ((IntKind.wrap .i64 (z3+1))) φ):L3 x0 r2 z0 a3 z1 z2 z3 φ:=
 mIn <|
 mFin 4 h
theorem L4_step (x0:Int) (r2:List Int×Int) (z0:List Int) (z1:Int) (φ:List Int×Int->Prop) (h :
 q33_.L1 x0 r2 z0 ((IntKind.wrap .i64 (z1+1))) φ):L4 x0 r2 z0 z1 φ:=
 mIn <|
 mFin 4 h
theorem enter (x0:Int) (x1:List api_FD) (φ:List Int×Int->Prop) (h :
 ∃ r1:Int,q57_.C x0 x1 r1 /\
 (if r1=0 then
 ∃ r2:List Int×Int,q68_.C x0 x1 r2 /\
 (if r2.2=0 then
 q33_.L1 x0 r2 ([]) 0 φ
 else
 φ (([],r2.2)))
 else
 φ (([],r1)))):∃ r,φ r/\C x0 x1 r:=
 mEnt (fd:=Tryz.f75) (body:=B) (V:=W) (res:=res) <|
 mCal 7 h (fun _ h=>h) fun r1 _ h=>
 Ab7 4 h Ab6 Ab5 (fun h=>
 mRet 7 h) fun h=>
 mCal 6 h (fun _ h=>h) (hf:=(fun _=>Aai (Aaz (Aa4 (Aae (e:=(eI .u32)) (fun _=>rfl)) (Aa4 rfl Aao))) rfl)) fun r2 _ h=>
 Ab7 8 h Ab6 Ab5 (fun h=>
 mRet 7 h) fun h=>
 mLen 8 (eI .u32) r2.1 <|
 mFin 2 h
end q33_
namespace q27_
noncomputable def B:Code:=(Tryz.f182.body).getD .skip
def W:List Nat:=[0,1,4,5,7,8,9,16]
def res (r:Int):D×List D:=(.lit (.int .i64 r),[])
def C (x0:List ByteArray) (x1:ByteArray) (r:Int):Prop:=Ret env 182 [.sl (x0.map eS),.lit (.string x1)] (res r).1 (res r).2
def L1 (x0:List ByteArray) (x1:ByteArray) (z0:Int) (φ:Int->Prop):Prop:=Pt env 182 W B [1,0,1,0] [(0,.sl (x0.map eS)),(1,.lit (.string x1)),(7,.lit (.int .i64 ((x0.length:Int)))),(8,.lit (.int .i64 z0))] (Lv env 182 Tryz.f182 2 res φ)
theorem L1_step (x0:List ByteArray) (x1:ByteArray) (z0:Int) (φ:Int->Prop) (h :
 (if z0<(x0.length:Int) then
 ∃ a1,lget x0 z0=some a1 /\
 (if x1.toList=a1.toList then
 φ z0
 else
 q27_.L1 x0 x1 ((IntKind.wrap .i64 (z0+1))) φ)
 else
 φ ((-1)))):L1 x0 x1 z0 φ:=
 mIn <|
 mAsk 2 h dT dF (fun h=>
 mIx 11 eS h fun a1 h2 h=>
 mAsk 1 h Bbx Bbw (fun h=>
 mRet 6 h) fun h=>
 mFin 7 h) fun h=>
 mRet 6 h
theorem enter (x0:List ByteArray) (x1:ByteArray) (φ:Int->Prop) (h :
 q27_.L1 x0 x1 0 φ):∃ r,φ r/\C x0 x1 r:=
 mEnt (fd:=Tryz.f182) (body:=B) (V:=W) (res:=res) <|
 mLen 5 eS x0 <|
 mFin 2 h
end q27_
namespace q24_
noncomputable def B:Code:=(Tryz.f131.body).getD .skip
def W:List Nat:=[0,1,4]
def res (r:Bool):D×List D:=(.lit (.bool r),[])
def C (x0:List ByteArray) (x1:ByteArray) (r:Bool):Prop:=Ret env 131 [.sl (x0.map eS),.lit (.string x1)] (res r).1 (res r).2
theorem enter (x0:List ByteArray) (x1:ByteArray) (φ:Bool->Prop) (h :
 ∃ r1:Int,q27_.C x0 x1 r1 /\
 φ ((decide (0<=r1)))):∃ r,φ r/\C x0 x1 r:=
 mEnt (fd:=Tryz.f131) (body:=B) (V:=W) (res:=res) <|
 mCal 6 h (fun _ h=>h) fun r1 _ h=>
 mRet 3 h
end q24_
namespace q80_
noncomputable def B:Code:=(Tryz.f130.body).getD .skip
def W:List Nat:=[0,2,3,4,5,16,18,19,20,56]
def res (r:Bool):D×List D:=(.lit (.bool r),[])
def C (x0:ByteArray) (r:Bool):Prop:=Ret env 130 [.lit (.string x0)] (res r).1 (res r).2
def L1 (x0:ByteArray) (z0:Int) (φ:Bool->Prop):Prop:=Pt env 130 W B [1,1,0,1,0] [(0,.lit (.string x0)),(18,.lit (.int .i64 ((Aga x0)))),(19,.lit (.int .i64 z0))] (Lv env 130 Tryz.f130 1 res φ)
def L2 (x0:ByteArray) (z0 z1:Int) (z2:Bool) (φ:Bool->Prop):Prop:=Pt env 130 W B [1,1,0,1,0,0,1,1,0,0,1,1,1,0] [(0,.lit (.string x0)),(3,.lit (.int .i64 z0)),(4,.lit (.int .u8 z1)),(5,.lit (.bool z2)),(18,.lit (.int .i64 ((Aga x0)))),(19,.lit (.int .i64 z0))] (Lv env 130 Tryz.f130 1 res φ)
def L3 (x0:ByteArray) (z0:Int) (φ:Bool->Prop):Prop:=Pt env 130 W B [1,1,0,1,0,0,1,1,1] [(0,.lit (.string x0)),(18,.lit (.int .i64 ((Aga x0)))),(19,.lit (.int .i64 z0))] (Lv env 130 Tryz.f130 1 res φ)
theorem L1_step (x0:ByteArray) (z0:Int) (φ:Bool->Prop) (h :
 (if z0<(Aga x0) then
 ∃ b1,((0:Int)<=z0/\x0[(z0).toNat]? = some b1) /\
 (if 97<=(u8i b1) then
 (if (u8i b1)<=122 then
 q80_.L2 x0 z0 ((u8i b1)) true φ
 else
 (if 65<=(u8i b1) then
 (if (u8i b1)<=90 then
 q80_.L2 x0 z0 ((u8i b1)) true φ
 else
 q80_.L2 x0 z0 ((u8i b1)) (((u8i b1) == 95)) φ)
 else
 q80_.L2 x0 z0 ((u8i b1)) (((u8i b1) == 95)) φ))
 else
 (if 65<=(u8i b1) then
 (if (u8i b1)<=90 then
 q80_.L2 x0 z0 ((u8i b1)) true φ
 else
 q80_.L2 x0 z0 ((u8i b1)) (((u8i b1) == 95)) φ)
 else
 q80_.L2 x0 z0 ((u8i b1)) (((u8i b1) == 95)) φ))
 else
 φ true)):L1 x0 z0 φ:=
 mIn <|
 mAsk 2 h dT dF (fun h=>
 mSt 10 h fun b1 h=>
 mAsk 4 h dT dF (fun h=>
 mAsk 2 h dT dF (fun h=>
 mFin 15 h) fun h=>
 mAsk 3 h dT dF (fun h=>
 mAsk 2 h dT dF (fun h=>
 mFin 8 h) fun h=>
 mFin 8 h) fun h=>
 mFin 11 h) fun h=>
 mAsk 6 h dT dF (fun h=>
 mAsk 2 h dT dF (fun h=>
 mFin 8 h) fun h=>
 mFin 8 h) fun h=>
 mFin 11 h) fun h=>
 mRet 6 h
theorem L2_step (x0:ByteArray) (z0 z1:Int) (z2:Bool) (φ:Bool->Prop) (h :
 (if z2=true then
 q80_.L3 x0 z0 φ
 else
 (if z0=0 then
 φ false
 else
 (if z1<48 then
 φ false
 else
 (if 57<z1 then
 φ false
 else
 q80_.L3 x0 z0 φ))))):L2 x0 z0 z1 z2 φ:=
 mIn <|
 mAsk 1 h id fls (fun h=>
 mFin 16 h) fun h=>
 mAsk 3 h Abz Aby (fun h=>
 mRet 14 h) fun h=>
 mAsk 2 h dT dF (fun h=>
 mRet 11 h) fun h=>
 mAsk 3 h dT dF (fun h=>
 mRet 7 h) fun h=>
 mFin 5 h
theorem L3_step (x0:ByteArray) (z0:Int) (φ:Bool->Prop) (h :
 q80_.L1 x0 ((IntKind.wrap .i64 (z0+1))) φ):L3 x0 z0 φ:=
 mIn <|
 mFin 4 h
theorem enter (x0:ByteArray) (φ:Bool->Prop) (h :
 (if x0.toList=((⟨#[]⟩:ByteArray)).toList then
 φ false
 else
 (if 24<(Aga x0) then
 φ false
 else
 (if x0.toList=((⟨#[110,117,108,108]⟩:ByteArray)).toList then
 φ false
 else
 q80_.L1 x0 0 φ)))):∃ r,φ r/\C x0 r:=
 mEnt (fd:=Tryz.f130) (body:=B) (V:=W) (res:=res) <|
 mAsk 5 h Bbx Bbw (fun h=>
 mRet 14 h) fun h=>
 mAsk 3 h dT dF (fun h=>
 mRet 10 h) fun h=>
 mAsk 3 h Bbx Bbw (fun h=>
 mRet 6 h) fun h=>
 mFin 9 h
end q80_
namespace q85_
noncomputable def B:Code:=(Tryz.f158.body).getD .skip
def W:List Nat:=[0,1,2,4,5,15,20,31]
def res (r:Bool):D×List D:=(.lit (.bool r),[])
def C (x0:api_Value) (r:Bool):Prop:=Ret env 158 [.agg [.lit (.int .i64 x0.Kind),.lit (.int .i64 x0.Num),.lit (.string x0.Str)]] (res r).1 (res r).2
theorem enter (x0:api_Value) (φ:Bool->Prop) (h :
 (if x0.Kind=0 then
 (if x0.Num=0 then
 φ ((x0.Str.toList == ((⟨#[]⟩:ByteArray)).toList))
 else
 φ false)
 else
 (if x0.Kind=1 then
 φ ((x0.Str.toList == ((⟨#[]⟩:ByteArray)).toList))
 else
 (if x0.Kind=2 then
 (if x0.Num=0 then
 φ ((decide ((Aga x0.Str)<=200)))
 else
 φ false)
 else
 (if x0.Kind=3 then
 (if 1<=x0.Num then
 φ ((x0.Str.toList == ((⟨#[]⟩:ByteArray)).toList))
 else
 φ false)
 else
 φ false))))):∃ r,φ r/\C x0 r:=
 mEnt (fd:=Tryz.f158) (body:=B) (V:=W) (res:=res) <|
 mCon 12 h Abz Aby (fun h=>
 mAsk 3 h Abz Aby (fun h=>
 mRet 7 h) fun h=>
 mRet 7 h) fun h=>
 mCon 4 h Abz Aby (fun h=>
 mRet 6 h) fun h=>
 mCon 4 h Abz Aby (fun h=>
 mAsk 3 h Abz Aby (fun h=>
 mRet 8 h) fun h=>
 mRet 8 h) fun h=>
 mCon 4 h Abz Aby (fun h=>
 mAsk 3 h dT dF (fun h=>
 mRet 7 h) fun h=>
 mRet 7 h) fun h=>
 mRet 4 h
end q85_
namespace q38_
noncomputable def B:Code:=(Tryz.f184.body).getD .skip
def W:List Nat:=[0,1,2]
def res (r:Bool):D×List D:=(.lit (.bool r),[])
def C (x0:api_Value) (r:Bool):Prop:=Ret env 184 [.agg [.lit (.int .i64 x0.Kind),.lit (.int .i64 x0.Num),.lit (.string x0.Str)]] (res r).1 (res r).2
theorem enter (x0:api_Value) (φ:Bool->Prop) (h :
 ∃ r1:Bool,q85_.C x0 r1 /\
 φ ((not r1))):∃ r,φ r/\C x0 r:=
 mEnt (fd:=Tryz.f184) (body:=B) (V:=W) (res:=res) <|
 mCal 6 h (fun _ h=>h) fun r1 _ h=>
 mRet 3 h
end q38_
namespace q2_
noncomputable def B:Code:=(Tryz.f219.body).getD .skip
def W:List Nat:=[0,1,4,5,7,8,9,16]
def res (r:Int):D×List D:=(.lit (.int .i64 r),[])
def C (x0:List api_Value) (r:Int):Prop:=Ret env 219 [.sl (x0.map Aa5),.fn 184 []] (res r).1 (res r).2
def L1 (x0:List api_Value) (z0:Int) (φ:Int->Prop):Prop:=Pt env 219 W B [1,0,1,0] [(0,.sl (x0.map Aa5)),(1,.fn 184 []),(7,.lit (.int .i64 ((x0.length:Int)))),(8,.lit (.int .i64 z0))] (Lv env 219 Tryz.f219 2 res φ)
theorem L1_step (x0:List api_Value) (z0:Int) (φ:Int->Prop) (h :
 (if z0<(x0.length:Int) then
 ∃ a1,lget x0 z0=some a1 /\
 ∃ r3:Bool,q38_.C a1 r3 /\
 (if r3=true then
 φ z0
 else
 q2_.L1 x0 ((IntKind.wrap .i64 (z0+1))) φ)
 else
 φ ((-1)))):L1 x0 z0 φ:=
 mIn <|
 mAsk 2 h dT dF (fun h=>
 mIx 11 Aa5 h fun a1 h2 h=>
 Adi 1 h (fun _ h=>h) (fun _ h=>
 mRet 6 h) fun _ h=>
 mFin 7 h) fun h=>
 mRet 6 h
theorem enter (x0:List api_Value) (φ:Int->Prop) (h :
 q2_.L1 x0 0 φ):∃ r,φ r/\C x0 r:=
 mEnt (fd:=Tryz.f219) (body:=B) (V:=W) (res:=res) <|
 mLen 5 Aa5 x0 <|
 mFin 2 h
end q2_
namespace q0_
noncomputable def B:Code:=(Tryz.f183.body).getD .skip
def W:List Nat:=[0,1,4]
def res (r:Bool):D×List D:=(.lit (.bool r),[])
def C (x0:List api_Value) (r:Bool):Prop:=Ret env 183 [.sl (x0.map Aa5),.fn 184 []] (res r).1 (res r).2
theorem enter (x0:List api_Value) (φ:Bool->Prop) (h :
 ∃ r1:Int,q2_.C x0 r1 /\
 φ ((decide (0<=r1)))):∃ r,φ r/\C x0 r:=
 mEnt (fd:=Tryz.f183) (body:=B) (V:=W) (res:=res) <|
 mCal 6 h (fun _ h=>h) fun r1 _ h=>
 mRet 3 h
end q0_
namespace q43_
noncomputable def B:Code:=(Tryz.f132.body).getD .skip
def W:List Nat:=[0,2]
def res (r:Bool):D×List D:=(.lit (.bool r),[])
def C (x0:List api_Value) (r:Bool):Prop:=Ret env 132 [.sl (x0.map Aa5)] (res r).1 (res r).2
theorem enter (x0:List api_Value) (φ:Bool->Prop) (h :
 ∃ r1:Bool,q0_.C x0 r1 /\
 φ ((not r1))):∃ r,φ r/\C x0 r:=
 mEnt (fd:=Tryz.f132) (body:=B) (V:=W) (res:=res) <|
 mCal 5 h (fun _ h=>h) fun r1 _ h=>
 mRet 3 h
end q43_
namespace q86_
noncomputable def B:Code:=(Tryz.f63.body).getD .skip
def W:List Nat:=[0,1,2,3,4,5,7,11,21,23,24,25,26,40,43,44,45,46,49,54,62]
def res (r:Int):D×List D:=(.lit (.int .i64 r),[])
def C (x0:api_Table) (r:Int):Prop:=Ret env 63 [.agg [.lit (.string x0.Name),.sl (x0.Attrs.map eS),.sl (x0.Rows.map Aa2)]] (res r).1 (res r).2
def L1 (x0:api_Table) (z0:Int) (φ:Int->Prop):Prop:=Pt env 63 W B [1,1,1,0,1,0] [(0,.agg [.lit (.string x0.Name),.sl (x0.Attrs.map eS),.sl (x0.Rows.map Aa2)]),(1,.box [.lit (.string x0.Name),.sl (x0.Attrs.map eS),.sl (x0.Rows.map Aa2)]),(23,.sl (x0.Attrs.map eS)),(24,.lit (.int .i64 ((x0.Attrs.length:Int)))),(25,.lit (.int .i64 z0))] (Lv env 63 Tryz.f63 1 res φ)
def L2 (x0:api_Table) (z0 z1:Int) (φ:Int->Prop):Prop:=Pt env 63 W B [1,1,1,1,1,0,1,0] [(0,.agg [.lit (.string x0.Name),.sl (x0.Attrs.map eS),.sl (x0.Rows.map Aa2)]),(1,.box [.lit (.string x0.Name),.sl (x0.Attrs.map eS),.sl (x0.Rows.map Aa2)]),(5,.lit (.int .i64 z0)),(43,.sl (x0.Rows.map Aa2)),(44,.lit (.int .i64 ((x0.Rows.length:Int)))),(45,.lit (.int .i64 z1))] (Lv env 63 Tryz.f63 1 res φ)
theorem L1_step (x0:api_Table) (z0:Int) (φ:Int->Prop) (h :
 (if z0<(x0.Attrs.length:Int) then
 ∃ a2,lget x0.Attrs z0=some a2 /\
 ∃ r4:Bool,q80_.C a2 r4 /\
 (if r4=true then
 0<=z0 /\
 (0<=z0.toNat/\z0.toNat<=x0.Attrs.length) /\
 ∃ r7:Bool,q24_.C ((List.take (z0.toNat-0) x0.Attrs)) a2 r7 /\
 (if r7=true then
 φ 1
 else
 q86_.L1 x0 ((IntKind.wrap .i64 (z0+1))) φ)
 else
 φ 1)
 else
 q86_.L2 x0 0 0 φ)):L1 x0 z0 φ:=
 mIn <|
 mAsk 2 h dT dF (fun h=>
 mIx 5 eS h fun a2 h3 h=>
 Adi 6 h (fun _ h=>h) (fun _ h=>
 h.elim fun h5 h=>
 h.elim fun h6 h=>
 mVl 5 (Ahm (t:=44) (x:=(.tmp 35)) (lo:=none) (hi:=(some (.tmp 36))) (lo':=none) (hi':=some (z0).toNat) (e:=eS) (l:=x0.Attrs) (et:=9) (k:=1) (by kernel_rfl) (by kernel_rfl) Adm (Acw (i:=z0) (q:=.i64) (by kernel_rfl) h5) (by kernel_rfl) (by kernel_rfl) (fun _=>rfl) (by kernel_rfl) h6.1 h6.2) <|
 Adi 1 h (fun _ h=>h) (fun _ h=>
 mRet 6 h) fun _ h=>
 mFin 8 h) fun _ h=>
 mRet 14 h) fun h=>
 mLen 9 Aa2 x0.Rows <|
 mFin 2 h
theorem L2_step (x0:api_Table) (z0 z1:Int) (φ:Int->Prop) (h :
 (if z1<(x0.Rows.length:Int) then
 ∃ a8,lget x0.Rows z1=some a8 /\
 (if a8.ID<=z0 then
 φ 1
 else
 (if (a8.Values.length:Int)=(x0.Attrs.length:Int) then
 ∃ r10:Bool,q43_.C a8.Values r10 /\
 (if r10=true then
 q86_.L2 x0 a8.ID ((IntKind.wrap .i64 (z1+1))) φ
 else
 φ 1)
 else
 φ 6))
 else
 φ 0)):L2 x0 z0 z1 φ:=
 mIn <|
 mAsk 2 h dT dF (fun h=>
 mIx 4 Aa2 h fun a8 h9 h=>
 mCon 11 h dT dF (fun h=>
 mRet 3 h) fun h=>
 mLen 3 Aa5 a8.Values <|
 mLen 2 eS x0.Attrs <|
 Bgk 3 h Ab6 Ab5 (fun h=>
 mRet 3 h) fun h=>
 mCal 3 h (fun _ h=>h) fun r10 _ h=>
 Bgk 3 h (fun h=>fls (Bm2 h)) (fun h=>id (Bm1 h)) (fun h=>
 mRet 3 h) fun h=>
 mFin 10 h) fun h=>
 mRet 6 h
theorem enter (x0:api_Table) (φ:Int->Prop) (h :
 ∃ r1:Bool,q80_.C x0.Name r1 /\
 (if r1=true then
 (if 16<(x0.Attrs.length:Int) then
 φ 3
 else
 (if 1000<(x0.Rows.length:Int) then
 φ 3
 else
 q86_.L1 x0 0 φ))
 else
 φ 1)):∃ r,φ r/\C x0 r:=
 mEnt (fd:=Tryz.f63) (body:=B) (V:=W) (res:=res) <|
 Adi 7 h (fun _ h=>h) (fun _ h=>
 mLen 7 eS x0.Attrs <|
 mAsk 0 h dT dF (fun h=>
 mRet 11 h) fun h=>
 mLen 3 Aa2 x0.Rows <|
 mAsk 0 h dT dF (fun h=>
 mRet 6 h) fun h=>
 mLen 7 eS x0.Attrs <|
 mFin 2 h) fun _ h=>
 mRet 6 h
end q86_
namespace q58_
noncomputable def B:Code:=(Tryz.f115.body).getD .skip
def W:List Nat:=[0,2,3,5]
def res (r:List Int):D×List D:=(.own (r.map (eI .i64)),[])
def C (x0:Int) (r:List Int):Prop:=Ret env 115 [.lit (.int .u32 x0)] (res r).1 (res r).2
def L1 (x0:Int) (z0:List Int) (φ:List Int->Prop):Prop:=Pt env 115 W B [1,1,0,0] [(0,.lit (.int .u32 x0)),(3,.own (z0.map (eI .i64)))] (Lv env 115 Tryz.f115 1 res φ)
theorem L1_step (x0:Int) (z0:List Int) (φ:List Int->Prop) (h :
 (if x0=0 then
 φ z0
 else
 (0<=x0/\x0<4294967296) /\
 (z0.length+1)*8<=140737488355328 /\
 q58_.L1 ((bAnd .u32 x0 (IntKind.wrap .u32 (x0-1)))) ((z0++[(tz32 x0)])) φ)):L1 x0 z0 φ:=
 mIn <|
 Ab7 3 h Ab6 Ab5 (fun h=>
 h.elim fun h1 h=>
 Asl 6 (show Ret env 177 [.lit (.int .u32 x0)] (.lit (.int .i64 ((tz32 x0)))) [] from Be7 (by kernel_rfl) h1) <|
 mApp 1 (eI .i64) z0 ([(tz32 x0)]) h fun h=>
 mFin 9 h) fun h=>
 mRet 7 h
theorem enter (x0:Int) (φ:List Int->Prop) (h :
 q58_.L1 x0 ([]) φ):∃ r,φ r/\C x0 r:=
 mEnt (fd:=Tryz.f115) (body:=B) (V:=W) (res:=res) <|
 mFin 6 h
end q58_
namespace q81_
noncomputable def B:Code:=(Tryz.f188.body).getD .skip
def W:List Nat:=[0,1,4,5,6,11]
def res (r:List Int):D×List D:=(.own (r.map (eI .u8)),[])
def C (x1:Int) (k0_0 r:List Int):Prop:=Ret env 188 [.own (k0_0.map (eI .u8)),.lit (.int .i64 x1)] (res r).1 (res r).2
def L1 (k0_0:List Int) (z0 z1:Int) (φ:List Int->Prop):Prop:=Pt env 188 W B [1,1,0,1,0] [(0,.own (k0_0.map (eI .u8))),(5,.lit (.int .u64 z0)),(6,.lit (.int .i64 z1))] (Lv env 188 Tryz.f188 2 res φ)
theorem L1_step (k0_0:List Int) (z0 z1:Int) (φ:List Int->Prop) (h :
 (if 0<=z1 then
 0<=z1 /\
 (k0_0.length+1)*1<=140737488355328 /\
 q81_.L1 ((k0_0++[(IntKind.wrap .u8 (shrw .u64 z0 z1))])) z0 ((IntKind.wrap .i64 (z1-8))) φ
 else
 φ k0_0)):L1 k0_0 z0 z1 φ:=
 mIn <|
 mAsk 3 h dT dF (fun h=>
 h.elim fun h1 h=>
 mBi 7 (Ape (t:=224) (q:=.u64) (q':=.i64) (i1:=z0) h1) <|
 mApp 2 (eI .u8) k0_0 ([(IntKind.wrap .u8 (shrw .u64 z0 z1))]) h fun h=>
 mFin 7 h) fun h=>
 mRet 7 h
theorem enter (x1:Int) (k0_0:List Int) (φ:List Int->Prop) (h :
 q81_.L1 k0_0 ((bXor .u64 (IntKind.wrap .u64 x1) 9223372036854775808)) 56 φ):∃ r,φ r/\C x1 k0_0 r:=
 mEnt (fd:=Tryz.f188) (body:=B) (V:=W) (res:=res) <|
 mFin 12 h
end q81_
namespace q93_
noncomputable def B:Code:=(Tryz.f139.body).getD .skip
def W:List Nat:=[0,1,2,3,4,5,8,14,15,22,26,27,28,41]
def res (r:ByteArray×Int):D×List D:=(.tup [.lit (.string r.1),.lit (.int .i64 r.2)],[])
def C (x0:api_Value) (r:ByteArray×Int):Prop:=Ret env 139 [.agg [.lit (.int .i64 x0.Kind),.lit (.int .i64 x0.Num),.lit (.string x0.Str)]] (res r).1 (res r).2
def L2 (x0:api_Value) (z0:Bool) (φ:ByteArray×Int->Prop):Prop:=Pt env 139 W B [1,1,1,0,1,0,1,0] [(0,.agg [.lit (.int .i64 x0.Kind),.lit (.int .i64 x0.Num),.lit (.string x0.Str)]),(1,.box [.lit (.int .i64 x0.Kind),.lit (.int .i64 x0.Num),.lit (.string x0.Str)]),(4,.own (([(IntKind.wrap .u8 x0.Kind)]).map (eI .u8))),(14,.lit (.int .i64 x0.Kind)),(15,.lit (.bool z0))] (Lv env 139 Tryz.f139 1 res φ)
def L3 (x0:api_Value) (φ:ByteArray×Int->Prop):Prop:=Pt env 139 W B [1,1,1,0,1,0,1,1,0] [(0,.agg [.lit (.int .i64 x0.Kind),.lit (.int .i64 x0.Num),.lit (.string x0.Str)]),(1,.box [.lit (.int .i64 x0.Kind),.lit (.int .i64 x0.Num),.lit (.string x0.Str)]),(4,.own (([(IntKind.wrap .u8 x0.Kind)]).map (eI .u8))),(14,.lit (.int .i64 x0.Kind))] (Lv env 139 Tryz.f139 1 res φ)
def L1 (x0:api_Value) (z0:List Int) (z1:Int) (φ:ByteArray×Int->Prop):Prop:=Pt env 139 W B [1,1,1,0,1,0,1,1,1,0,0,1,0] [(0,.agg [.lit (.int .i64 x0.Kind),.lit (.int .i64 x0.Num),.lit (.string x0.Str)]),(1,.box [.lit (.int .i64 x0.Kind),.lit (.int .i64 x0.Num),.lit (.string x0.Str)]),(4,.own (z0.map (eI .u8))),(26,.lit (.int .i64 ((Aga x0.Str)))),(27,.lit (.int .i64 z1))] (Lv env 139 Tryz.f139 1 res φ)
def L4 (x0:api_Value) (z0:List Int) (z1:Int) (φ:ByteArray×Int->Prop):Prop:=Pt env 139 W B [1,1,1,0,1,0,1,1,1,0,0,1,0,0,1,1,1] [(0,.agg [.lit (.int .i64 x0.Kind),.lit (.int .i64 x0.Num),.lit (.string x0.Str)]),(1,.box [.lit (.int .i64 x0.Kind),.lit (.int .i64 x0.Num),.lit (.string x0.Str)]),(4,.own (z0.map (eI .u8))),(26,.lit (.int .i64 ((Aga x0.Str)))),(27,.lit (.int .i64 z1))] (Lv env 139 Tryz.f139 1 res φ)
theorem L2_step (x0:api_Value) (z0:Bool) (φ:ByteArray×Int->Prop) (h :
 ∃ r2:List Int,q81_.C x0.Num ([(IntKind.wrap .u8 x0.Kind)]) r2 /\
 (∀ x∈r2,0<=x/\x<256) /\
 φ (((Ami r2),0))):L2 x0 z0 φ:=
 mIn <|
 mCal 4 h (fun _ h=>h) (hf:=(fun _=>Aai (Aae (e:=(eI .u8)) (fun _=>rfl)) rfl)) fun r2 _ h=>
 h.elim fun h3 h=>
 mVl 4 (Ap2 (s:=77) (t:=9) (et:=5) (x:=(.tmp 49)) (d:=.alias 4 []) (l:=r2) (by kernel_rfl) (by kernel_rfl) (Afv (by kernel_rfl)) (by kernel_rfl) (by kernel_rfl) (by kernel_rfl) h3) <|
 mRet 3 h
theorem L3_step (x0:api_Value) (φ:ByteArray×Int->Prop) (h :
 (if x0.Kind=2 then
 q93_.L1 x0 ([(IntKind.wrap .u8 x0.Kind)]) 0 φ
 else
 (∀ x∈([(IntKind.wrap .u8 x0.Kind)]),0<=x/\x<256) /\
 φ (((Ami [(IntKind.wrap .u8 x0.Kind)]),0)))):L3 x0 φ:=
 mIn <|
 mCon 4 h Abz Aby (fun h=>
 mFin 6 h) fun h=>
 h.elim fun h4 h=>
 mVl 3 (Ap2 (s:=77) (t:=9) (et:=5) (x:=(.tmp 49)) (d:=.alias 4 []) (l:=[(IntKind.wrap .u8 x0.Kind)]) (by kernel_rfl) (by kernel_rfl) (Afv (by kernel_rfl)) (by kernel_rfl) (by kernel_rfl) (by kernel_rfl) h4) <|
 mRet 3 h
theorem L1_step (x0:api_Value) (z0:List Int) (z1:Int) (φ:ByteArray×Int->Prop) (h :
 (if z1<(Aga x0.Str) then
 ∃ b5,((0:Int)<=z1/\x0.Str[(z1).toNat]? = some b5) /\
 (z0.length+1)*1<=140737488355328 /\
 ∃ b9,((0:Int)<=z1/\x0.Str[(z1).toNat]? = some b9) /\
 (if (u8i b9)=0 then
 (((z0++[(u8i b5)])).length+1)*1<=140737488355328 /\
 q93_.L4 x0 (((z0++[(u8i b5)])++[255])) z1 φ
 else
 q93_.L4 x0 ((z0++[(u8i b5)])) z1 φ)
 else
 (z0.length+2)*1<=140737488355328 /\
 (∀ x∈((z0++[0,1])),0<=x/\x<256) /\
 φ (((Ami (z0++[0,1])),0)))):L1 x0 z0 z1 φ:=
 mIn <|
 mAsk 2 h dT dF (fun h=>
 mSt 12 h fun b5 h=>
 mApp 1 (eI .u8) z0 ([(u8i b5)]) h fun h=>
 mSt 6 h fun b9 h=>
 mAsk 0 h Abz Aby (fun h=>
 mApp 5 (eI .u8) ((z0++[(u8i b5)])) ([255]) h fun h=>
 mFin 2 h) fun h=>
 mFin 3 h) fun h=>
 mApp 6 (eI .u8) z0 ([0,1]) h fun h=>
 h.elim fun h14 h=>
 mVl 4 (Ap2 (s:=77) (t:=9) (et:=5) (x:=(.tmp 49)) (d:=.alias 4 []) (l:=(z0++[0,1])) (by kernel_rfl) (by kernel_rfl) (Afv (by kernel_rfl)) (by kernel_rfl) (by kernel_rfl) (by kernel_rfl) h14) <|
 mRet 3 h
theorem L4_step (x0:api_Value) (z0:List Int) (z1:Int) (φ:ByteArray×Int->Prop) (h :
 q93_.L1 x0 z0 ((IntKind.wrap .i64 (z1+1))) φ):L4 x0 z0 z1 φ:=
 mIn <|
 mFin 4 h
theorem enter (x0:api_Value) (φ:ByteArray×Int->Prop) (h :
 ∃ r1:Bool,q85_.C x0 r1 /\
 (if r1=true then
 (if x0.Kind=1 then
 (if x0.Kind=1 then
 q93_.L2 x0 ((x0.Kind == 1)) φ
 else
 q93_.L3 x0 φ)
 else
 (if x0.Kind=3 then
 q93_.L2 x0 ((x0.Kind == 3)) φ
 else
 q93_.L3 x0 φ))
 else
 φ (((⟨#[]⟩:ByteArray),1)))):∃ r,φ r/\C x0 r:=
 mEnt (fd:=Tryz.f139) (body:=B) (V:=W) (res:=res) <|
 Adi 7 h (fun _ h=>h) (fun _ h=>
 mCon 19 h Abz Aby (fun h=>
 mCon 1 h Abz Aby (fun h=>
 mFin 0 h) fun h=>
 mFin 0 h) fun h=>
 mCon 4 h Abz Aby (fun h=>
 mFin 0 h) fun h=>
 mFin 0 h) fun _ h=>
 mRet 7 h
end q93_
namespace q36_
noncomputable def B:Code:=(Tryz.f77.body).getD .skip
def W:List Nat:=[0,1,2,4,5,9,14]
def res (r:Int):D×List D:=(.lit (.int .i64 r),[])
def C (x0:api_Table) (x1:List api_FD) (r:Int):Prop:=Ret env 77 [.agg [.lit (.string x0.Name),.sl (x0.Attrs.map eS),.sl (x0.Rows.map Aa2)],.sl (x1.map Aa1)] (res r).1 (res r).2
theorem enter (x0:api_Table) (x1:List api_FD) (φ:Int->Prop) (h :
 ∃ r1:Int,q86_.C x0 r1 /\
 (if r1=0 then
 (if 200<(x0.Rows.length:Int) then
 φ 3
 else
 ∃ r2:Int,q57_.C ((x0.Attrs.length:Int)) x1 r2 /\
 φ r2)
 else
 φ r1)):∃ r,φ r/\C x0 x1 r:=
 mEnt (fd:=Tryz.f77) (body:=B) (V:=W) (res:=res) <|
 mCal 6 h (fun _ h=>h) fun r1 _ h=>
 Ab7 4 h Ab6 Ab5 (fun h=>
 mRet 6 h) fun h=>
 mLen 6 Aa2 x0.Rows <|
 mAsk 0 h dT dF (fun h=>
 mRet 5 h) fun h=>
 mLen 6 eS x0.Attrs <|
 mCal 1 h (fun _ h=>h) fun r2 _ h=>
 mRet 2 h
end q36_
namespace q59_
noncomputable def B:Code:=(Tryz.f119.body).getD .skip
def W:List Nat:=[0,1,3,4]
def res (r:Bool):D×List D:=(.lit (.bool r),[])
def C (x0:List api_FD) (x1:api_FD) (r:Bool):Prop:=Ret env 119 [.sl (x0.map Aa1),.agg [.lit (.int .u32 x1.Lhs),.lit (.int .u32 x1.Rhs)]] (res r).1 (res r).2
theorem enter (x0:List api_FD) (x1:api_FD) (φ:Bool->Prop) (h :
 ∃ r1:Int,q75_.C x0 x1.Lhs r1 /\
 φ (((Aaa .u32 x1.Rhs r1) == 0))):∃ r,φ r/\C x0 x1 r:=
 mEnt (fd:=Tryz.f119) (body:=B) (V:=W) (res:=res) <|
 mLo 10 h (fun _ h=>h) fun r1 _ h=>
 mRet 4 h
end q59_
namespace q28_
noncomputable def B:Code:=(Tryz.f221.body).getD .skip
def W:List Nat:=[0,1,3,4,5,7,8,9,16]
def res (r:Int):D×List D:=(.lit (.int .i64 r),[])
def C (x0:List api_FD) (x1:api_FD) (r:Int):Prop:=Ret env 221 [.sl (x0.map Aa1),.agg [.lit (.int .u32 x1.Lhs),.lit (.int .u32 x1.Rhs)]] (res r).1 (res r).2
def L1 (x0:List api_FD) (x1:api_FD) (z0:Int) (φ:Int->Prop):Prop:=Pt env 221 W B [1,0,1,0] [(0,.sl (x0.map Aa1)),(1,.agg [.lit (.int .u32 x1.Lhs),.lit (.int .u32 x1.Rhs)]),(3,.box [.lit (.int .u32 x1.Lhs),.lit (.int .u32 x1.Rhs)]),(7,.lit (.int .i64 ((x0.length:Int)))),(8,.lit (.int .i64 z0))] (Lv env 221 Tryz.f221 2 res φ)
theorem L1_step (x0:List api_FD) (x1:api_FD) (z0:Int) (φ:Int->Prop) (h :
 (if z0<(x0.length:Int) then
 ∃ a1,lget x0 z0=some a1 /\
 (if (and (x1.Lhs == a1.Lhs) (and (x1.Rhs == a1.Rhs) true))=true then
 φ z0
 else
 q28_.L1 x0 x1 ((IntKind.wrap .i64 (z0+1))) φ)
 else
 φ ((-1)))):L1 x0 x1 z0 φ:=
 mIn <|
 mAsk 2 h dT dF (fun h=>
 mIx 11 Aa1 h fun a1 h2 h=>
 mBiA 1 h id fls (hd:=(Azj (t:=37) (xs:=[.lit (.int .u32 x1.Lhs),.lit (.int .u32 x1.Rhs)]) (ys:=[.lit (.int .u32 a1.Lhs),.lit (.int .u32 a1.Rhs)]) (l:=[(x1.Lhs == a1.Lhs),(x1.Rhs == a1.Rhs)]))) (fun h=>
 mRet 6 h) fun h=>
 mFin 7 h) fun h=>
 mRet 6 h
theorem enter (x0:List api_FD) (x1:api_FD) (φ:Int->Prop) (h :
 q28_.L1 x0 x1 0 φ):∃ r,φ r/\C x0 x1 r:=
 mEnt (fd:=Tryz.f221) (body:=B) (V:=W) (res:=res) <|
 mLen 6 Aa1 x0 <|
 mFin 2 h
end q28_
namespace q25_
noncomputable def B:Code:=(Tryz.f192.body).getD .skip
def W:List Nat:=[0,1,3,4]
def res (r:Bool):D×List D:=(.lit (.bool r),[])
def C (x0:List api_FD) (x1:api_FD) (r:Bool):Prop:=Ret env 192 [.sl (x0.map Aa1),.agg [.lit (.int .u32 x1.Lhs),.lit (.int .u32 x1.Rhs)]] (res r).1 (res r).2
theorem enter (x0:List api_FD) (x1:api_FD) (φ:Bool->Prop) (h :
 ∃ r1:Int,q28_.C x0 x1 r1 /\
 φ ((decide (0<=r1)))):∃ r,φ r/\C x0 x1 r:=
 mEnt (fd:=Tryz.f192) (body:=B) (V:=W) (res:=res) <|
 mCal 7 h (fun _ h=>h) fun r1 _ h=>
 mRet 3 h
end q25_
namespace q60_
noncomputable def B:Code:=(Tryz.f185.body).getD .skip
def W:List Nat:=[0,1,2,3,4,6,7,9,17,22,23,24,25,37,41,42,43,44,61]
def res (r:Bool):D×List D:=(.lit (.bool r),[])
def C (x0:api_Partition) (r:Bool):Prop:=Ret env 185 [.agg [.lit (.int .i64 x0.Rows),.sl (x0.Classes.map (eSl (eI .i64)))]] (res r).1 (res r).2
def L1 (x0:api_Partition) (z0:List Bool) (z1 z2:Int) (φ:Bool->Prop):Prop:=Pt env 185 W B [1,1,1,1,0,1,0] [(0,.agg [.lit (.int .i64 x0.Rows),.sl (x0.Classes.map (eSl (eI .i64)))]),(1,.box [.lit (.int .i64 x0.Rows),.sl (x0.Classes.map (eSl (eI .i64)))]),(3,.own (z0.map eB)),(4,.lit (.int .i64 z1)),(22,.sl (x0.Classes.map (eSl (eI .i64)))),(23,.lit (.int .i64 ((x0.Classes.length:Int)))),(24,.lit (.int .i64 z2))] (Lv env 185 Tryz.f185 1 res φ)
def L2 (x0:api_Partition) (z0:List Bool) (a4:Int) (a2:List Int) (z1 z2 z3:Int) (φ:Bool->Prop):Prop:=Pt env 185 W B [1,1,1,1,0,1,0,0,1,1,0,0,1,1,1,1,1,0] [(0,.agg [.lit (.int .i64 x0.Rows),.sl (x0.Classes.map (eSl (eI .i64)))]),(1,.box [.lit (.int .i64 x0.Rows),.sl (x0.Classes.map (eSl (eI .i64)))]),(3,.own (z0.map eB)),(4,.lit (.int .i64 a4)),(6,.sl (a2.map (eI .i64))),(7,.lit (.int .i64 z1)),(22,.sl (x0.Classes.map (eSl (eI .i64)))),(23,.lit (.int .i64 ((x0.Classes.length:Int)))),(24,.lit (.int .i64 z2)),(41,.sl (a2.map (eI .i64))),(42,.lit (.int .i64 ((a2.length:Int)))),(43,.lit (.int .i64 z3))] (Lv env 185 Tryz.f185 1 res φ)
theorem L1_step (x0:api_Partition) (z0:List Bool) (z1 z2:Int) (φ:Bool->Prop) (h :
 (if z2<(x0.Classes.length:Int) then
 ∃ a2,lget x0.Classes z2=some a2 /\
 (if (a2.length:Int)<2 then
 φ false
 else
 ∃ a4,lget a2 0=some a4 /\
 (if a4<=z1 then
 φ false
 else
 q60_.L2 x0 z0 a4 a2 ((-1)) z2 0 φ))
 else
 φ true)):L1 x0 z0 z1 z2 φ:=
 mIn <|
 mAsk 2 h dT dF (fun h=>
 mIx 4 (eSl (eI .i64)) h fun a2 h3 h=>
 mLen 5 (eI .i64) a2 <|
 mAsk 0 h dT dF (fun h=>
 mRet 12 h) fun h=>
 mIx 2 (eI .i64) h fun a4 h5 h=>
 mAsk 2 h dT dF (fun h=>
 mRet 6 h) fun h=>
 mIxf 6 (eI .i64) h5 <|
 mLen 8 (eI .i64) a2 <|
 mFin 2 h) fun h=>
 mRet 6 h
theorem L2_step (x0:api_Partition) (z0:List Bool) (a4:Int) (a2:List Int) (z1 z2 z3:Int) (φ:Bool->Prop) (h :
 (if z3<(a2.length:Int) then
 ∃ a6,lget a2 z3=some a6 /\
 (if a6<=z1 then
 φ false
 else
 (if x0.Rows<=a6 then
 φ false
 else
 ∃ a8,lget z0 a6=some a8 /\
 (if a8=true then
 φ false
 else
 q60_.L2 x0 ((lset z0 a6 true)) a4 a2 a6 z2 ((IntKind.wrap .i64 (z3+1))) φ)))
 else
 q60_.L1 x0 z0 a4 ((IntKind.wrap .i64 (z2+1))) φ)):L2 x0 z0 a4 a2 z1 z2 z3 φ:=
 mIn <|
 mAsk 2 h dT dF (fun h=>
 mIx 4 (eI .i64) h fun a6 h7 h=>
 mAsk 6 h dT dF (fun h=>
 mRet 17 h) fun h=>
 mAsk 4 h dT dF (fun h=>
 mRet 12 h) fun h=>
 mIy 4 eB h fun a8 h9 h=>
 mLdB 0 h9 h (fun h=>
 mRet 6 h) fun h=>
 mIyf 7 eB h9 <|
 mSto 0 eB true h9 <|
 mFin 9 h) fun h=>
 mFin 7 h
theorem enter (x0:api_Partition) (φ:Bool->Prop) (h :
 (if x0.Rows<0 then
 φ false
 else
 (if 1000<x0.Rows then
 φ false
 else
 (0<=x0.Rows/\x0.Rows*1<=281474976710656) /\
 q60_.L1 x0 ((List.replicate x0.Rows.toNat false)) ((-1)) 0 φ))):∃ r,φ r/\C x0 r:=
 mEnt (fd:=Tryz.f185) (body:=B) (V:=W) (res:=res) <|
 mAsk 7 h dT dF (fun h=>
 mRet 10 h) fun h=>
 mAsk 3 h dT dF (fun h=>
 mRet 6 h) fun h=>
 h.elim fun h1 h=>
 mVl 7 (Ane (t:=147) (x:=(.tmp 19)) (y:=(.tmp 19)) (q:=.i64) (i:=x0.Rows) (et:=4) (z:=.lit (.bool false)) (e:=eB) (a:=false) (k:=1) (by kernel_rfl) (by kernel_rfl) (by kernel_rfl) (by kernel_rfl) (by kernel_rfl) (by kernel_rfl) (by kernel_rfl) (by kernel_rfl) (by kernel_rfl) (by kernel_rfl) h1.1 h1.2) <|
 mLen 8 (eSl (eI .i64)) x0.Classes <|
 mFin 2 h
end q60_
end Go.Own
namespace Go.Own
def Ac2 (rows:Int):Int->List Bool->List Int->Option (List Bool)
 | _,seen,[]=>some seen
 | before,seen,i::r=>if i<=before∨rows<=i∨lget seen i=some true then none else Ac2 rows i (lset seen i true) r
def Ac6 (rows:Int):Int->List Bool->List (List Int)->Bool
 | _,_,[]=>true
 | first,seen,c::cs=>match c with
  | []=>false
  | [_]=>false
  | a::b::r=>if a<=first then false else match Ac2 rows (-1) seen (a::b::r) with
   | none=>false
   | some seen'=>Ac6 rows a seen' cs
def Acl (p:api_Partition):Bool:=if p.Rows<0 then false else if 1000<p.Rows then false else Ac6 p.Rows (-1) (List.replicate p.Rows.toNat false) p.Classes
def Aib (p:api_Partition):Prop:=p.Classes.length<Big/\∀ c∈p.Classes,c.length<Big
theorem Alk {rows:Int}:∀ {r:List Int} {b:Int} {s s':List Bool},Ac2 rows b s r=some s'->s'.length=s.length
 | [],_,_,_,h=>by simp [Ac2] at h;rw [h]
 | i::r,b,s,s',h=>by
  simp only [Ac2] at h
  split at h
  ·cases h
  ·have:=Alk h;rw [this,Abp]
namespace q60_
theorem inner {x0:api_Partition} {a4 y24:Int} {a2:List Int} {φ:Bool->Prop} (hb:a2.length<Big):∀ (r:List Int) (k:Nat) (seen:List Bool) (before:Int),a2.drop k=r->(seen.length:Int)=x0.Rows->-1<=before ->
  (match Ac2 x0.Rows before seen r with
   | none=>φ false
   | some s=>L1 x0 s a4 (IntKind.wrap .i64 (y24+1)) φ)->L2 x0 seen a4 a2 before y24 k φ
 | [],k,seen,before,hd,hs,hbf,h=>by
  apply L2_step;have:=Aax hd;rw [if_neg (by omega)];exact h
 | i::r,k,seen,before,hd,hs,hbf,h=>by
  apply L2_step;have hk:=Aay hd;rw [if_pos (by omega)];refine ⟨i,Aar hd,?_⟩;simp only [Ac2] at h
  split
  ·rename_i h1;rw [if_pos (.inl h1)] at h;exact h
  ·rename_i h1
   split
   ·rename_i h2;rw [if_pos (.inr (.inl h2))] at h;exact h
   ·rename_i h2;obtain ⟨b,hg⟩:=Afx (l:=seen) (i:=i) (by omega) (by omega);refine ⟨b,hg,?_⟩
    split
    ·rename_i h3;subst h3;rw [if_pos (.inr (.inr hg))] at h;exact h
    ·rename_i h3;have:¬ (i<=before∨x0.Rows<=i∨lget seen i=some true):=by
      rintro (h | h | h)
      ·exact h1 h
      ·exact h2 h
      ·rw [hg] at h;exact h3 (Option.some.inj h)
     rw [if_neg this] at h;rw [Aa3 (by unfold Big at hb;omega)];exact inner hb r (k+1) _ i (Aa7 hd) (by rw [Abp];exact hs) (by omega) h
theorem outer {x0:api_Partition} {φ:Bool->Prop} (hb:Aib x0):∀ (cs:List (List Int)) (k:Nat) (seen:List Bool) (first:Int),x0.Classes.drop k=cs->(seen.length:Int)=x0.Rows ->
  φ (Ac6 x0.Rows first seen cs)->L1 x0 seen first k φ
 | [],k,seen,first,hd,hs,h=>by
  apply L1_step;have:=Aax hd;rw [if_neg (by omega)];exact h
 | c::cs,k,seen,first,hd,hs,h=>by
  apply L1_step;have hk:=Aay hd;have hc:c∈x0.Classes:=List.mem_of_getElem? (Aaj hd);rw [if_pos (by omega)];refine ⟨c,Aar hd,?_⟩
  match c,hc,h,hd with
  | [],_,h,hd=>simp only [List.length_nil];exact h
  | [_],_,h,hd=>simp only [List.length_singleton];exact h
  | a::b::r,hc,h,hd=>
   rw [if_neg (by simp;omega)];refine ⟨a,by simp [lget],?_⟩;simp only [Ac6] at h
   split
   ·rename_i h1;rw [if_pos h1] at h;exact h
   ·rename_i h1;rw [if_neg h1] at h;refine inner (hb.2 _ hc) (a::b::r) 0 seen (-1) rfl hs (by omega) ?_;cases ho:Ac2 x0.Rows (-1) seen (a::b::r) with
    | none=>rw [ho] at h;exact h
    | some s=>
     rw [ho] at h;simp only at h ⊢;rw [Aa3 (by have:=hb.1;unfold Big at this;omega)];exact outer hb cs (k+1) s a (Aa7 hd) (by rw [Alk ho];exact hs) h
theorem spec {x0:api_Partition} (hb:Aib x0):C x0 (Acl x0):=by
 obtain ⟨r,h1,h2⟩:=enter x0 (fun r=>r=Acl x0) (by
  unfold Acl
  split
  ·rfl
  ·split
   ·rfl
   ·refine ⟨by omega,?_⟩;exact outer hb x0.Classes 0 _ (-1) rfl (by simp;omega) rfl)
 rw [← h1];exact h2
end q60_
def free:List Bool->Nat
 | []=>0
 | b::l=>(if b then 0 else 1)+free l
theorem Atp (n:Nat):free (List.replicate n false)=n:=by
 induction n with
 | zero=>rfl
 | succ n ih=>simp only [List.replicate_succ,free,ih];simp;omega
theorem Axa:∀ {l:List Bool} {n:Nat},l[n]? = some false->free (l.set n true)+1=free l
 | [],n,h=>by simp at h
 | b::l,0,h=>by simp at h;subst h;simp [free];omega
 | b::l,n+1,h=>by
  simp only [List.getElem?_cons_succ] at h;have:=Axa h;simp only [List.set_cons_succ,free];omega
theorem Bdg {l:List Bool} {i:Int} (h:lget l i=some false):free (lset l i true)+1=free l:=Axa (Abg h).2
theorem Aqe {rows:Int}:∀ {r:List Int} {i b:Int} {s s':List Bool},-1<=b->(s.length:Int)=rows->Ac2 rows b s (i::r)=some s'->b<i/\i<rows/\lget s i=some false/\Ac2 rows i (lset s i true) r=some s':=by
 intro r i b s s' hb hs h;simp only [Ac2] at h
 split at h
 ·cases h
 ·rename_i h1;simp only [not_or] at h1;obtain ⟨x,hx⟩:=Afx (l:=s) (i:=i) (by omega) (by omega);refine ⟨by omega,by omega,?_,h⟩;rw [hx] at h1 ⊢;cases x with
  | true=>exact absurd rfl h1.2.2
  | false=>rfl
theorem Aop {rows:Int}:∀ {r:List Int} {b:Int} {s s':List Bool},-1<=b->(s.length:Int)=rows->Ac2 rows b s r=some s'->free s'+r.length=free s
 | [],b,s,s',hb,hs,h=>by simp [Ac2] at h;simp [h]
 | i::r,b,s,s',hb,hs,h=>by
  obtain ⟨h1,h2,h3,h4⟩:=Aqe hb hs h;have:=Aop (by omega) (by rw [Abp];exact hs) h4;have h5:=Bdg h3;simp only [List.length_cons];omega
def Ah1:List (List Int)->Int
 | []=>0
 | c::cs=>((c.length:Int)-1)+Ah1 cs
theorem Ann {rows first:Int} {s:List Bool} {c:List Int} {cs:List (List Int)} (h:Ac6 rows first s (c::cs)=true):∃ a b r s',c=a::b::r/\first<a/\Ac2 rows (-1) s c=some s'/\Ac6 rows a s' cs=true:=by
 match c,h with
 | [],h=>simp [Ac6] at h
 | [_],h=>simp [Ac6] at h
 | a::b::r,h=>
  simp only [Ac6] at h
  split at h
  ·cases h
  ·rename_i h1;cases ho:Ac2 rows (-1) s (a::b::r) with
   | none=>rw [ho] at h;cases h
   | some s'=>rw [ho] at h;exact ⟨a,b,r,s',rfl,by omega,rfl,h⟩
theorem Arv {rows:Int}:∀ {cs:List (List Int)} {first:Int} {s:List Bool},(s.length:Int)=rows->Ac6 rows first s cs=true->0<=Ah1 cs/\Ah1 cs<=free s
 | [],_,_,_,_=>by simp [Ah1]
 | c::cs,first,s,hs,h=>by
  obtain ⟨a,b,r,s',hc,h1,h2,h3⟩:=Ann h;have h4:=Aop (by omega) hs h2;have h5:=Arv (by rw [Alk h2];exact hs) h3;subst hc;simp only [Ah1,List.length_cons] at h4 ⊢;omega
theorem Ayf {p:api_Partition} (h:Acl p=true):0<=p.Rows/\p.Rows<=1000/\Ac6 p.Rows (-1) (List.replicate p.Rows.toNat false) p.Classes=true:=by
 unfold Acl at h
 split at h
 ·cases h
 ·split at h
  ·cases h
  ·exact ⟨by omega,by omega,h⟩
def Afj (a:Int):List Int->List Int->List Int
 | l,[]=>l
 | l,i::r=>Afj a (lset l i a) r
theorem Ack {a:Int}:∀ {l r:List Int},(Afj a l r).length=l.length
 | _,[]=>rfl
 | l,i::r=>by simp only [Afj];rw [Ack,Abp]
def Akx (s:List Bool) (r:List Int):List Bool:=r.foldl (fun s i=>lset s i true) s
theorem Aok:∀ {r:List Int} {s:List Bool},(Akx s r).length=s.length
 | [],_=>rfl
 | i::r,s=>by
  show (Akx (lset s i true) r).length=_;rw [Aok,Abp]
theorem Aoj:∀ {r:List Int} {s:List Bool} {j:Int},(∀ i∈r,0<=i/\i<s.length)->0<=j->j<s.length->lget (Akx s r) j=if j∈r then some true else lget s j
 | [],_,_,_,_,_=>by simp [Akx]
 | i::r,s,j,h,hj,hjs=>by
  show lget (Akx (lset s i true) r) j=_;have hi:=h i (by simp);rw [Aoj (fun k hk=>by rw [Abp];exact h k (by simp [hk])) hj (by rw [Abp];exact hjs)];by_cases h1:j∈r
  ·simp [h1]
  ·rw [if_neg h1,Akv hi.1 hj];by_cases h2:i=j
   ·subst h2;simp [hi.2]
   ·rw [if_neg h2,if_neg];simp only [List.mem_cons,not_or];exact ⟨fun h=>h2 h.symm,h1⟩
theorem Aii {rows:Int}:∀ {r:List Int} {b:Int} {s s':List Bool},-1<=b->(s.length:Int)=rows->(Ac2 rows b s r=some s'↔(b::r).Pairwise (·<·)/\(∀ i∈r,i<rows/\lget s i=some false)/\s'=Akx s r)
 | [],b,s,s',hb,hs=>by simp [Ac2,Akx,eq_comm]
 | i::r,b,s,s',hb,hs=>by
  constructor
  ·intro h;obtain ⟨h1,h2,h3,h4⟩:=Aqe hb hs h;obtain ⟨k1,k2,k3⟩:=(Aii (by omega) (by rw [Abp];exact hs)).1 h4;have k4:=List.pairwise_cons.1 k1;refine ⟨List.pairwise_cons.2 ⟨fun j hj=>?_,k1⟩,fun j hj=>?_,k3⟩
   ·rcases List.mem_cons.1 hj with rfl | hj
    ·exact h1
    ·have:=k4.1 j hj;omega
   ·rcases List.mem_cons.1 hj with rfl | hj
    ·exact ⟨h2,h3⟩
    ·have h5:=k4.1 j hj;have h6:=k2 j hj;rw [Akv (by omega) (by omega),if_neg (by omega)] at h6;exact h6
  ·rintro ⟨h1,h2,h3⟩;have k1:=List.pairwise_cons.1 h1;have k2:=List.pairwise_cons.1 k1.2;have hbi:=k1.1 i (by simp);have hi:=h2 i (by simp);simp only [Ac2];rw [if_neg (by
    rintro (h | h | h)
    ·omega
    ·omega
    ·rw [hi.2] at h;cases h)]
   refine (Aii (by omega) (by rw [Abp];exact hs)).2 ⟨k1.2,fun j hj=>?_,h3⟩;have h5:=k2.1 j hj;rw [Akv (by omega) (by omega),if_neg (by omega)];exact h2 j (by simp [hj])
structure CP (rows:Int) (cs:List (List Int)):Prop where
 two:∀ c∈cs,2<=c.length
 inc:∀ c∈cs,c.Pairwise (·<·)
 inn:∀ c∈cs,∀ i∈c,0<=i/\i<rows
 heads:cs.Pairwise fun c d=>c.headD 0<d.headD 0
 disj:cs.Pairwise fun c d=>∀ i∈c,i ∉ d
theorem Age {rows:Int}:∀ {cs:List (List Int)} {first:Int} {s:List Bool},-1<=first->(s.length:Int)=rows->(Ac6 rows first s cs=true↔CP rows cs/\(∀ c∈cs,first<c.headD 0)/\∀ c∈cs,∀ i∈c,lget s i=some false)
 | [],first,s,hf,hs=>by
  simp only [Ac6,true_iff];exact ⟨⟨by simp,by simp,by simp,by simp,by simp⟩,by simp,by simp⟩
 | c::cs,first,s,hf,hs=>by
  constructor
  ·intro h;obtain ⟨a,b,t,s',hc,h1,h2,h3⟩:=Ann h;obtain ⟨m1,m2,m3⟩:=(Aii (by omega) hs).1 h2;have hin:∀ i∈c,0<=i/\i<rows:=fun i hi=>by
    have:=(List.pairwise_cons.1 m1).1 i hi;exact ⟨by omega,(m2 i hi).1⟩
   have hs':(s'.length:Int)=rows:=by rw [m3,Aok];exact hs
   have ha:0<=a:=(hin a (by rw [hc];simp)).1;obtain ⟨n1,n2,n3⟩:=(Age (by omega) hs').1 h3;have key:∀ d∈cs,∀ i∈d,i ∉ c/\lget s i=some false:=fun d hd i hi=>by
    have h5:=n3 d hd i hi;have h6:=n1.inn d hd i hi;rw [m3,Aoj (fun k hk=>by have:=hin k hk;omega) h6.1 (by omega)] at h5;by_cases hic:i∈c
    ·rw [if_pos hic] at h5;cases h5
    ·rw [if_neg hic] at h5;exact ⟨hic,h5⟩
   refine ⟨⟨?_,?_,?_,?_,?_⟩,?_,?_⟩
   ·intro d hd;rcases List.mem_cons.1 hd with rfl | hd
    ·rw [hc];simp
    ·exact n1.two d hd
   ·intro d hd;rcases List.mem_cons.1 hd with rfl | hd
    ·exact (List.pairwise_cons.1 m1).2
    ·exact n1.inc d hd
   ·intro d hd;rcases List.mem_cons.1 hd with rfl | hd
    ·exact hin
    ·exact n1.inn d hd
   ·refine List.pairwise_cons.2 ⟨fun d hd=>?_,n1.heads⟩;have:=n2 d hd;rw [hc];exact this
   ·exact List.pairwise_cons.2 ⟨fun d hd i hi hid=>(key d hd i hid).1 hi,n1.disj⟩
   ·intro d hd;rcases List.mem_cons.1 hd with rfl | hd
    ·rw [hc];exact h1
    ·have:=n2 d hd;omega
   ·intro d hd i hi;rcases List.mem_cons.1 hd with rfl | hd
    ·exact (m2 i hi).2
    ·exact (key d hd i hi).2
  ·rintro ⟨⟨p1,p2,p3,p4,p5⟩,q1,q2⟩
   match c,p1 c (by simp),p1,p2,p3,p4,p5,q1,q2 with
   | a::b::t,_,p1,p2,p3,p4,p5,q1,q2=>
    have ho:Ac2 rows (-1) s (a::b::t)=some (Akx s (a::b::t)):=(Aii (by omega) hs).2 ⟨List.pairwise_cons.2 ⟨fun i hi=>by have:=(p3 _ (by simp) i hi).1;omega,p2 _ (by simp)⟩,fun i hi=>⟨(p3 _ (by simp) i hi).2,q2 _ (by simp) i hi⟩,rfl⟩;have ha:=p3 (a::b::t) (by simp) a (by simp);simp only [Ac6];rw [if_neg (by have:=q1 (a::b::t) (by simp);simp at this;omega),ho];refine (Age (by omega) (by rw [Aok];exact hs)).2 ⟨⟨fun d hd=>p1 d (by simp [hd]),fun d hd=>p2 d (by simp [hd]),fun d hd=>p3 d (by simp [hd]),(List.pairwise_cons.1 p4).2,(List.pairwise_cons.1 p5).2⟩,fun d hd=>?_,fun d hd i hi=>?_⟩
    ·exact (List.pairwise_cons.1 p4).1 d hd
    ·have h6:=p3 d (by simp [hd]) i hi;rw [Aoj (fun k hk=>by have:=p3 (a::b::t) (by simp) k hk;omega) h6.1 (by omega),if_neg]
     ·exact q2 d (by simp [hd]) i hi
     ·exact fun hic=>(List.pairwise_cons.1 p5).1 d hd i hic hi
theorem Afq {p:api_Partition}:Acl p=true↔0<=p.Rows/\p.Rows<=1000/\CP p.Rows p.Classes:=by
 constructor
 ·intro h;obtain ⟨h1,h2,h3⟩:=Ayf h;exact ⟨h1,h2,((Age (by omega) (by simp;omega)).1 h3).1⟩
 ·rintro ⟨h1,h2,h3⟩;unfold Acl;rw [if_neg (by omega),if_neg (by omega)];refine (Age (by omega) (by simp;omega)).2 ⟨h3,fun c hc=>?_,fun c hc i hi=>?_⟩
  ·have h4:=h3.two c hc
   match c,h4,hc with
   | a::t,_,hc=>have:=h3.inn _ hc a (by simp);simp;omega
  ·have:=h3.inn c hc i hi;simp only [lget,if_pos this.1,List.getElem?_replicate];rw [if_pos (by omega)]
def Same (p:api_Partition) (i j:Int):Prop:=i=j∨∃ c∈p.Classes,i∈c/\j∈c
theorem Ak0 {a:Int}:∀ {r:List Int} {l:List Int} {j:Int},(∀ i∈r,0<=i/\i<l.length)->0<=j->j<l.length->lget (Afj a l r) j=if j∈r then some a else lget l j
 | [],_,_,_,_,_=>by simp [Afj]
 | i::r,l,j,h,hj,hjl=>by
  have hi:=h i (by simp);simp only [Afj];rw [Ak0 (fun k hk=>by rw [Abp];exact h k (by simp [hk])) hj (by rw [Abp];exact hjl)];by_cases h1:j∈r
  ·simp [h1]
  ·rw [if_neg h1,Akv hi.1 hj];by_cases h2:i=j
   ·subst h2;simp [hi.2]
   ·rw [if_neg h2,if_neg];simp only [List.mem_cons,not_or];exact ⟨fun h=>h2 h.symm,h1⟩
def Aha:List (Int×List Int)->List Int->List Int
 | [],l=>l
 | (a,c)::r,l=>Aha r (Afj a l c)
theorem Ase:∀ {r:List (Int×List Int)} {l:List Int},(Aha r l).length=l.length
 | [],_=>rfl
 | (a,c)::r,l=>by simp only [Aha];rw [Ase,Ack]
theorem Ams:∀ {r:List (Int×List Int)} {l:List Int} {j:Int},(∀ x∈r,∀ i∈x.2,0<=i/\i<l.length)->0<=j->j<l.length->(∀ x∈r,j ∉ x.2)->lget (Aha r l) j=lget l j
 | [],_,_,_,_,_,_=>rfl
 | (a,c)::r,l,j,h,hj,hjl,hn=>by
  simp only [Aha];rw [Ams (fun x hx=>by rw [Ack];exact h x (by simp [hx])) hj (by rw [Ack];exact hjl) (fun x hx=>hn x (by simp [hx])),Ak0 (h (a,c) (by simp)) hj hjl,if_neg (hn (a,c) (by simp))]
theorem Av6:∀ {r:List (Int×List Int)} {l:List Int} {j:Int} {x:Int×List Int},(∀ x∈r,∀ i∈x.2,0<=i/\i<l.length)->0<=j->j<l.length->r.Pairwise (fun x y=>∀ i∈x.2,i ∉ y.2)->x∈r->j∈x.2->lget (Aha r l) j=some x.1
 | [],_,_,_,_,_,_,_,hx,_=>by cases hx
 | (a,c)::r,l,j,x,h,hj,hjl,hp,hx,hjx=>by
  simp only [Aha];have hp':=List.pairwise_cons.1 hp;rcases List.mem_cons.1 hx with rfl | hx
  ·rw [Ams (fun x hx=>by rw [Ack];exact h x (by simp [hx])) hj (by rw [Ack];exact hjl) (fun y hy=>hp'.1 y hy j hjx),Ak0 (h (a,c) (by simp)) hj hjl,if_pos hjx]
  ·exact Av6 (fun x hx=>by rw [Ack];exact h x (by simp [hx])) hj (by rw [Ack];exact hjl) hp'.2 hx hjx
theorem Bdj {c:List Int} (h:2<=c.length):c.headD 0∈c:=by
 match c,h with
 | a::t,_=>simp
end Go.Own
namespace Go.Own
open Go.Proofs D
set_option maxRecDepth 100000
set_option maxHeartbeats 4000000
namespace q46_
noncomputable def B:Code:=(Tryz.f134.body).getD .skip
def W:List Nat:=[0,1,2,3,4,5,6,8,13,14,15,24,25,26,27,31,32,33,34]
def res (r:List Int):D×List D:=(.own (r.map (eI .i64)),[])
def C (x0:api_Partition) (r:List Int):Prop:=Ret env 134 [.agg [.lit (.int .i64 x0.Rows),.sl (x0.Classes.map (eSl (eI .i64)))]] (res r).1 (res r).2
def L1 (x0:api_Partition) (z0:List Int) (z1:Int) (φ:List Int->Prop):Prop:=Pt env 134 W B [1,1,0,1,0] [(0,.agg [.lit (.int .i64 x0.Rows),.sl (x0.Classes.map (eSl (eI .i64)))]),(1,.box [.lit (.int .i64 x0.Rows),.sl (x0.Classes.map (eSl (eI .i64)))]),(3,.own (z0.map (eI .i64))),(13,.lit (.int .i64 (((List.replicate x0.Rows.toNat (0:Int)).length:Int)))),(14,.lit (.int .i64 z1))] (Lv env 134 Tryz.f134 1 res φ)
def L2 (x0:api_Partition) (z0:List Int) (z1:Int) (φ:List Int->Prop):Prop:=Pt env 134 W B [1,1,1,0,1,0] [(0,.agg [.lit (.int .i64 x0.Rows),.sl (x0.Classes.map (eSl (eI .i64)))]),(1,.box [.lit (.int .i64 x0.Rows),.sl (x0.Classes.map (eSl (eI .i64)))]),(3,.own (z0.map (eI .i64))),(24,.sl (x0.Classes.map (eSl (eI .i64)))),(25,.lit (.int .i64 ((x0.Classes.length:Int)))),(26,.lit (.int .i64 z1))] (Lv env 134 Tryz.f134 1 res φ)
def L3 (x0:api_Partition) (z0:List Int) (z1:Int) (a4:List Int) (z2 z3:Int) (φ:List Int->Prop):Prop:=Pt env 134 W B [1,1,1,0,1,0,0,1,1,0,0,1,1,0] [(0,.agg [.lit (.int .i64 x0.Rows),.sl (x0.Classes.map (eSl (eI .i64)))]),(1,.box [.lit (.int .i64 x0.Rows),.sl (x0.Classes.map (eSl (eI .i64)))]),(3,.own (z0.map (eI .i64))),(5,.lit (.int .i64 z1)),(6,.sl (a4.map (eI .i64))),(24,.sl (x0.Classes.map (eSl (eI .i64)))),(25,.lit (.int .i64 ((x0.Classes.length:Int)))),(26,.lit (.int .i64 z2)),(31,.sl (a4.map (eI .i64))),(32,.lit (.int .i64 ((a4.length:Int)))),(33,.lit (.int .i64 z3))] (Lv env 134 Tryz.f134 1 res φ)
theorem L1_step (x0:api_Partition) (z0:List Int) (z1:Int) (φ:List Int->Prop) (h :
 (if z1<((List.replicate x0.Rows.toNat (0:Int)).length:Int) then
 ∃ a2,lget z0 z1=some a2 /\
 q46_.L1 x0 ((lset z0 z1 (IntKind.wrap .i64 ((-1)-z1)))) ((IntKind.wrap .i64 (z1+1))) φ
 else
 q46_.L2 x0 z0 0 φ)):L1 x0 z0 z1 φ:=
 mIn <|
 mAsk 2 h dT dF (fun h=>
 mIy 12 (eI .i64) h fun a2 h3 h=>
 mSto 0 (eI .i64) ((IntKind.wrap .i64 ((-1)-z1))) h3 <|
 mFin 5 h) fun h=>
 mLen 6 (eSl (eI .i64)) x0.Classes <|
 mFin 2 h
theorem L2_step (x0:api_Partition) (z0:List Int) (z1:Int) (φ:List Int->Prop) (h :
 (if z1<(x0.Classes.length:Int) then
 ∃ a4,lget x0.Classes z1=some a4 /\
 q46_.L3 x0 z0 z1 a4 z1 0 φ
 else
 φ z0)):L2 x0 z0 z1 φ:=
 mIn <|
 mAsk 2 h dT dF (fun h=>
 mIx 5 (eSl (eI .i64)) h fun a4 h5 h=>
 mLen 6 (eI .i64) a4 <|
 mFin 2 h) fun h=>
 mRet 7 h
theorem L3_step (x0:api_Partition) (z0:List Int) (z1:Int) (a4:List Int) (z2 z3:Int) (φ:List Int->Prop) (h :
 (if z3<(a4.length:Int) then
 ∃ a6,lget a4 z3=some a6 /\
 ∃ a8,lget z0 a6=some a8 /\
 q46_.L3 x0 ((lset z0 a6 z1)) z1 a4 z2 ((IntKind.wrap .i64 (z3+1))) φ
 else
 q46_.L2 x0 z0 ((IntKind.wrap .i64 (z2+1))) φ)):L3 x0 z0 z1 a4 z2 z3 φ:=
 mIn <|
 mAsk 2 h dT dF (fun h=>
 mIx 4 (eI .i64) h fun a6 h7 h=>
 mIy 7 (eI .i64) h fun a8 h9 h=>
 mSto 0 (eI .i64) z1 h9 <|
 mFin 5 h) fun h=>
 mFin 7 h
theorem enter (x0:api_Partition) (φ:List Int->Prop) (h :
 (0<=x0.Rows/\x0.Rows*8<=281474976710656) /\
 q46_.L1 x0 ((List.replicate x0.Rows.toNat (0:Int))) 0 φ):∃ r,φ r/\C x0 r:=
 mEnt (fd:=Tryz.f134) (body:=B) (V:=W) (res:=res) <|
 h.elim fun h1 h=>
 mVl 7 (Ane (t:=84) (x:=(.tmp 10)) (y:=(.tmp 10)) (q:=.i64) (i:=x0.Rows) (et:=3) (z:=.lit (.int .i64 0)) (e:=(eI .i64)) (a:=(0:Int)) (k:=8) (by kernel_rfl) (by kernel_rfl) (by kernel_rfl) (by kernel_rfl) (by kernel_rfl) (by kernel_rfl) (by kernel_rfl) (by kernel_rfl) (by kernel_rfl) (by kernel_rfl) h1.1 h1.2) <|
 mLen 4 (eI .i64) ((List.replicate x0.Rows.toNat (0:Int))) <|
 mFin 2 h
end q46_
namespace q70_
noncomputable def B:Code:=(Tryz.f133.body).getD .skip
def W:List Nat:=[0,1,2,3,4,12,17]
def res (r:Int):D×List D:=(.lit (.int .i64 r),[])
def C (x0 x1:api_Partition) (r:Int):Prop:=Ret env 133 [.agg [.lit (.int .i64 x0.Rows),.sl (x0.Classes.map (eSl (eI .i64)))],.agg [.lit (.int .i64 x1.Rows),.sl (x1.Classes.map (eSl (eI .i64)))]] (res r).1 (res r).2
theorem enter (x0 x1:api_Partition) (φ:Int->Prop) (h :
 ∃ r1:Bool,q60_.C x0 r1 /\
 (if r1=true then
 ∃ r2:Bool,q60_.C x1 r2 /\
 (if r2=true then
 (if x0.Rows=x1.Rows then
 φ 0
 else
 φ 6)
 else
 φ 1)
 else
 φ 1)):∃ r,φ r/\C x0 x1 r:=
 mEnt (fd:=Tryz.f133) (body:=B) (V:=W) (res:=res) <|
 Adi 7 h (fun _ h=>h) (fun _ h=>
 Adi 3 h (fun _ h=>h) (fun _ h=>
 Ab7 10 h Ab6 Ab5 (fun h=>
 mRet 5 h) fun h=>
 mRet 6 h) fun _ h=>
 mRet 7 h) fun _ h=>
 mRet 11 h
end q70_
end Go.Own
namespace Go.Own
def negs (n:Nat):List Int:=(List.range n).map fun (k:Nat)=>-1-(k:Int)
theorem Bfx {n k:Nat} (h:k<n):(negs n)[k]? = some (-1-(k:Int)):=by simp [negs,h]
theorem Agj {n:Nat}:(negs n).length=n:=by simp [negs]
def idx:Nat->List (List Int)->List (Int×List Int)
 | _,[]=>[]
 | k,c::cs=>((k:Int),c)::idx (k+1) cs
theorem Agp:∀ {cs:List (List Int)} {k:Nat} {x:Int×List Int},x∈idx k cs->∃ n:Nat,k<=n/\x.1=(n:Int)/\cs[n-k]? = some x.2
 | [],_,_,h=>by cases h
 | c::cs,k,x,h=>by
  rcases List.mem_cons.1 h with rfl | h
  ·exact ⟨k,by omega,rfl,by simp⟩
  ·obtain ⟨n,h1,h2,h3⟩:=Agp h;refine ⟨n,by omega,h2,?_⟩;have:n-k=(n-(k+1))+1:=by omega
   rw [this,List.getElem?_cons_succ];exact h3
theorem Axe:∀ {cs:List (List Int)} {k:Nat} {c:List Int},c∈cs->∃ n:Nat,((n:Int),c)∈idx k cs
 | [],_,_,h=>by cases h
 | d::cs,k,c,h=>by
  rcases List.mem_cons.1 h with rfl | h
  ·exact ⟨k,by simp [idx]⟩
  ·obtain ⟨n,hn⟩:=Axe (k:=k+1) h;exact ⟨n,by simp [idx,hn]⟩
theorem Azw:∀ {cs:List (List Int)} {k:Nat},(idx k cs).map Prod.snd=cs
 | [],_=>rfl
 | c::cs,k=>by simp [idx,Azw]
def labN (p:api_Partition):List Int:=Aha (idx 0 p.Classes) (negs p.Rows.toNat)
theorem Ar1 {p:api_Partition}:(labN p).length=p.Rows.toNat:=by unfold labN;rw [Ase,Agj]
namespace q46_
theorem fill {x0:api_Partition} {φ:List Int->Prop} (h0:0<=x0.Rows) (h1:x0.Rows<=1000) (hL:L2 x0 (negs x0.Rows.toNat) 0 φ):∀ (m k:Nat),k+m=x0.Rows.toNat->L1 x0 (negs k++List.replicate m 0) k φ
 | 0,k,hk=>by
  apply L1_step;rw [if_neg (by simp;omega)];have:k=x0.Rows.toNat:=by omega
  simpa [this] using hL
 | m+1,k,hk=>by
  apply L1_step;rw [if_pos (by simp;omega)];have hl:(negs k).length=k:=Agj;refine ⟨0,?_,?_⟩
  ·rw [Ab4,List.getElem?_append_right (by omega)];simp [hl]
  ·rw [Aa3 (by omega),Af2 (by omega) (by omega)];have:lset (negs k++List.replicate (m+1) 0) (k:Int) (-1-(k:Int))=negs (k+1)++List.replicate m 0:=by
    unfold lset;rw [Int.toNat_natCast,List.set_append_right _ _ (by omega),hl,Nat.sub_self,List.replicate_succ,List.set_cons_zero];simp [negs,List.range_succ]
   rw [this];exact fill h0 h1 hL m (k+1) (by omega)
theorem inner {x0:api_Partition} {φ:List Int->Prop} {c:List Int} {a:Int} {j:Nat} (hb:c.length<Big) (hj:j+1<Big):∀ (r:List Int) (k:Nat) (l:List Int),c.drop k=r->(∀ i∈r,0<=i/\i<l.length) ->
  L2 x0 (Afj a l r) ((j+1:Nat):Int) φ->L3 x0 l a c j k φ
 | [],k,l,hd,hin,h=>by
  apply L3_step;have:=Aax hd;rw [if_neg (by omega),Aa3 hj];exact h
 | i::r,k,l,hd,hin,h=>by
  apply L3_step;have hk:=Aay hd;have hi:=hin i (by simp);rw [if_pos (by omega)];obtain ⟨x,hx⟩:=Afx (l:=l) (i:=i) hi.1 hi.2;refine ⟨i,Aar hd,x,hx,?_⟩;rw [Aa3 (by unfold Big at hb;omega)];exact inner hb hj r (k+1) _ (Aa7 hd) (fun q hq=>by rw [Abp];exact hin q (by simp [hq])) h
theorem outer {x0:api_Partition} {φ:List Int->Prop} (hb:Aib x0):∀ (cs:List (List Int)) (k:Nat) (l:List Int),x0.Classes.drop k=cs->(∀ c∈cs,∀ i∈c,0<=i/\i<l.length) ->
  φ (Aha (idx k cs) l)->L2 x0 l k φ
 | [],k,l,hd,hin,h=>by
  apply L2_step;have:=Aax hd;rw [if_neg (by omega)];exact h
 | c::cs,k,l,hd,hin,h=>by
  apply L2_step;have hk:=Aay hd;rw [if_pos (by omega)];have hcg:=Aaj hd;refine ⟨c,Aar hd,?_⟩;refine inner (hb.2 _ (List.mem_of_getElem? hcg)) (by have:=hb.1;omega) c 0 l rfl (hin c (by simp)) ?_;exact outer hb cs (k+1) _ (Aa7 hd) (fun d hd i hi=>by rw [Ack];exact hin d (by simp [hd]) i hi) h
theorem spec {x0:api_Partition} (hb:Aib x0) (hv:Acl x0=true):C x0 (labN x0):=by
 obtain ⟨v1,v2,v3⟩:=Afq.1 hv;obtain ⟨r,h1,h2⟩:=enter x0 (fun r=>r=labN x0) (by
  refine ⟨by omega,?_⟩;have:=fill (φ:=fun r=>r=labN x0) v1 v2 (outer hb x0.Classes 0 _ rfl (fun c hc i hi=>by have:=v3.inn c hc i hi;rw [Agj];omega) rfl) x0.Rows.toNat 0 (by omega);simpa [negs] using this)
 rw [← h1];exact h2
end q46_
theorem Ar2 {p:api_Partition} (hv:Acl p=true) {i:Int} (h0:0<=i) (h1:i<p.Rows) (hn:∀ c∈p.Classes,i ∉ c):lget (labN p) i=some (-1-i):=by
 obtain ⟨v1,v2,v3⟩:=Afq.1 hv;unfold labN;rw [Ams (fun x hx=>?_) h0 (by rw [Agj];omega) (fun x hx=>?_)]
 ·simp only [lget,if_pos h0];rw [Bfx (by omega)];congr 1;omega
 ·obtain ⟨n,_,_,h3⟩:=Agp hx;intro j hj;have:=v3.inn _ (List.mem_of_getElem? h3) j hj;rw [Agj];omega
 ·obtain ⟨n,_,_,h3⟩:=Agp hx;exact hn _ (List.mem_of_getElem? h3)
theorem Alv {p:api_Partition} (hv:Acl p=true) {i:Int} {x:Int×List Int} (hc:x∈idx 0 p.Classes) (hi:i∈x.2):lget (labN p) i=some x.1:=by
 obtain ⟨v1,v2,v3⟩:=Afq.1 hv;obtain ⟨n,_,_,h3⟩:=Agp hc;have hin:=v3.inn _ (List.mem_of_getElem? h3) i hi;unfold labN;refine Av6 (fun y hy=>?_) hin.1 (by rw [Agj];omega) ?_ hc hi
 ·obtain ⟨n,_,_,h3⟩:=Agp hy;intro j hj;have:=v3.inn _ (List.mem_of_getElem? h3) j hj;rw [Agj];omega
 ·have:=v3.disj;rw [← Azw (cs:=p.Classes) (k:=0)] at this;exact List.pairwise_map.1 this
theorem Bdt {p:api_Partition} (hv:Acl p=true) {i j:Int} (hi:0<=i/\i<p.Rows) (hj:0<=j/\j<p.Rows):lget (labN p) i=lget (labN p) j↔Same p i j:=by
 obtain ⟨v1,v2,v3⟩:=Afq.1 hv;have inn:∀ {i:Int},(∃ c∈p.Classes,i∈c)->∃ x∈idx 0 p.Classes,i∈x.2:=by
  rintro i ⟨c,hc,hi⟩;obtain ⟨n,hn⟩:=Axe (k:=0) hc;exact ⟨_,hn,hi⟩
 constructor
 ·intro h;by_cases hic:∃ c∈p.Classes,i∈c
  ·obtain ⟨x,hx,hxi⟩:=inn hic;obtain ⟨n,_,e1,g1⟩:=Agp hx;rw [Alv hv hx hxi] at h;by_cases hjc:∃ d∈p.Classes,j∈d
   ·obtain ⟨y,hy,hyj⟩:=inn hjc;obtain ⟨m,_,e2,g2⟩:=Agp hy;rw [Alv hv hy hyj] at h;have h2:=Option.some.inj h;have:n=m:=by omega
    subst this;rw [g1] at g2;have:=Option.some.inj g2;exact .inr ⟨x.2,List.mem_of_getElem? g1,hxi,by rw [this];exact hyj⟩
   ·rw [Ar2 hv hj.1 hj.2 (fun c hc hjc'=>hjc ⟨c,hc,hjc'⟩)] at h;have h2:=Option.some.inj h;omega
  ·rw [Ar2 hv hi.1 hi.2 (fun c hc hic'=>hic ⟨c,hc,hic'⟩)] at h;by_cases hjc:∃ d∈p.Classes,j∈d
   ·obtain ⟨y,hy,hyj⟩:=inn hjc;obtain ⟨m,_,e2,g2⟩:=Agp hy;rw [Alv hv hy hyj] at h;have h2:=Option.some.inj h;omega
   ·rw [Ar2 hv hj.1 hj.2 (fun c hc hjc'=>hjc ⟨c,hc,hjc'⟩)] at h;exact .inl (by have:=Option.some.inj h;omega)
 ·rintro (rfl | ⟨c,hc,h1,h2⟩)
  ·rfl
  ·obtain ⟨n,hn⟩:=Axe (k:=0) hc;rw [Alv hv hn h1,Alv hv hn h2]
def Akn (a b:api_Partition):Int:=if Acl a then (if Acl b then (if a.Rows=b.Rows then 0 else 6) else 1) else 1
theorem q70_.spec {a b:api_Partition} (ha:Aib a) (hb:Aib b):q70_.C a b (Akn a b):=by
 obtain ⟨r,h1,h2⟩:=q70_.enter a b (fun r=>r=Akn a b) (by
  refine ⟨_,q60_.spec ha,?_⟩;unfold Akn
  split
  ·refine ⟨_,q60_.spec hb,?_⟩
   split
   ·split
    ·rfl
    ·rfl
   ·rfl
  ·rfl)
 rw [← h1];exact h2
theorem Aoc {rows:Int}:∀ {cs:List (List Int)} {c:List Int},CP rows cs->c∈cs->(c.length:Int)-1<=Ah1 cs/\(cs.length:Int)<=Ah1 cs
 | [],_,_,h=>by cases h
 | d::cs,c,hp,h=>by
  have hd:=hp.two d (by simp);have hp':CP rows cs:=⟨fun c hc=>hp.two c (by simp [hc]),fun c hc=>hp.inc c (by simp [hc]),fun c hc=>hp.inn c (by simp [hc]),(List.pairwise_cons.1 hp.heads).2,(List.pairwise_cons.1 hp.disj).2⟩
  have hnn:∀ {cs:List (List Int)},CP rows cs->(cs.length:Int)<=Ah1 cs:=by
   intro cs
   induction cs with
   | nil=>intro _;simp [Ah1]
   | cons e cs ih=>
    intro hq;have he:=hq.two e (by simp);have:=ih ⟨fun c hc=>hq.two c (by simp [hc]),fun c hc=>hq.inc c (by simp [hc]),fun c hc=>hq.inn c (by simp [hc]),(List.pairwise_cons.1 hq.heads).2,(List.pairwise_cons.1 hq.disj).2⟩;simp only [Ah1,List.length_cons];omega
  have h1:=hnn hp';simp only [Ah1,List.length_cons];refine ⟨?_,by omega⟩;rcases List.mem_cons.1 h with rfl | h
  ·omega
  ·have:=(Aoc hp' h).1;omega
theorem Bm5 {x:api_Partition} (hv:Acl x=true):x.Classes.length<=1000/\∀ c∈x.Classes,c.length<=1001:=by
 obtain ⟨v1,v2,v3⟩:=Afq.1 hv;obtain ⟨w1,w2,w3⟩:=Ayf hv;have h1:=(Arv (by simp;omega) w3).2;rw [Atp] at h1;refine ⟨?_,fun c hc=>?_⟩
 ·cases hcs:x.Classes with
  | nil=>simp
  | cons c cs=>
   have:=(Aoc v3 (c:=c) (by rw [hcs];simp)).2;rw [hcs] at this h1;omega
 ·have:=(Aoc v3 hc).1;omega
def lab1 (r:List Int) (i:Int):Int:=(lget r i).getD 0
theorem Azy {r:List Int} {i a:Int} (h:lget r i=some a):lab1 r i=a:=by simp [lab1,h]
theorem Bfn {r:List Int} {i j:Int} (hi:0<=i/\i<r.length) (hj:0<=j/\j<r.length):lab1 r i=lab1 r j↔lget r i=lget r j:=by
 obtain ⟨a,ha⟩:=Afx hi.1 hi.2;obtain ⟨b,hb⟩:=Afx hj.1 hj.2;simp [lab1,ha,hb]
theorem Asn {k k' v:Int}:∀ {l:List (Int×Int)},Ac1 k' (mset k v l) 0=if k=k' then v else Ac1 k' l 0
 | []=>by
  by_cases h:k=k'
  ·subst h;simp [Ac1,mset,mget]
  ·simp [Ac1,mset,mget,h,Ne.symm h]
 | (a,b)::l=>by
  have ih:=Asn (k:=k) (k':=k') (v:=v) (l:=l);simp only [Ac1] at ih ⊢;simp only [mset];by_cases h1:k=a
  ·subst h1;simp only [if_true,mget];by_cases h2:k'=k
   ·subst h2;simp
   ·simp [h2,Ne.symm h2]
  ·simp only [if_neg h1,mget];by_cases h2:k'=a
   ·subst h2;simp [h1]
   ·simp only [if_neg h2];exact ih
structure Lbl (x:api_Partition) (r:List Int):Prop where
 has:∀ c∈x.Classes,∀ i∈c,∃ a,lget r i=some a
namespace drossref08_Removal
end drossref08_Removal
end Go.Own
namespace Go.Own
open Go.Proofs D
set_option maxRecDepth 100000
set_option maxHeartbeats 4000000
namespace q91_
noncomputable def B:Code:=(Tryz.f145.body).getD .skip
def W:List Nat:=[0,2,3,5,6,7,8,9,15]
def res (r:List api_FD):D×List D:=(.own (r.map Aa1),[])
def C (x0 r:List api_FD):Prop:=Ret env 145 [.sl (x0.map Aa1)] (res r).1 (res r).2
def L1 (x0 z0:List api_FD) (z1:Int) (φ:List api_FD->Prop):Prop:=Pt env 145 W B [1,1,0,1,0] [(0,.sl (x0.map Aa1)),(3,.own (z0.map Aa1)),(6,.sl (x0.map Aa1)),(7,.lit (.int .i64 ((x0.length:Int)))),(8,.lit (.int .i64 z1))] (Lv env 145 Tryz.f145 1 res φ)
def L2 (x0 z0:List api_FD) (z1:Int) (φ:List api_FD->Prop):Prop:=Pt env 145 W B [1,1,0,1,0,0,1,1,1] [(0,.sl (x0.map Aa1)),(3,.own (z0.map Aa1)),(6,.sl (x0.map Aa1)),(7,.lit (.int .i64 ((x0.length:Int)))),(8,.lit (.int .i64 z1))] (Lv env 145 Tryz.f145 1 res φ)
theorem L1_step (x0 z0:List api_FD) (z1:Int) (φ:List api_FD->Prop) (h :
 (if z1<(x0.length:Int) then
 ∃ a1,lget x0 z1=some a1 /\
 ∃ r3:Bool,q25_.C z0 a1 r3 /\
 (if r3=true then
 q91_.L2 x0 z0 z1 φ
 else
 (z0.length+1)*8<=140737488355328 /\
 q91_.L2 x0 ((z0++[a1])) z1 φ)
 else
 φ z0)):L1 x0 z0 z1 φ:=
 mIn <|
 mAsk 2 h dT dF (fun h=>
 mIx 4 Aa1 h fun a1 h2 h=>
 Adi 7 h (fun _ h=>h) (hr:=by exact (Acp (Ad6 (s:=3) (ps:=[]) (l:=z0) (e:=Aa1) (e':=Aa1) (fun _=>rfl) (by kernel_rfl)) (pr_k Ae0))) (fun _ h=>
 mFin 4 h) fun _ h=>
 mApp 7 Aa1 z0 ([a1]) h fun h=>
 mFin 2 h) fun h=>
 mRet 7 h
theorem L2_step (x0 z0:List api_FD) (z1:Int) (φ:List api_FD->Prop) (h :
 q91_.L1 x0 z0 ((IntKind.wrap .i64 (z1+1))) φ):L2 x0 z0 z1 φ:=
 mIn <|
 mFin 4 h
theorem enter (x0:List api_FD) (φ:List api_FD->Prop) (h :
 q91_.L1 x0 ([]) 0 φ):∃ r,φ r/\C x0 r:=
 mEnt (fd:=Tryz.f145) (body:=B) (V:=W) (res:=res) <|
 mLen 8 Aa1 x0 <|
 mFin 2 h
end q91_
namespace q87_
noncomputable def B:Code:=(Tryz.f143.body).getD .skip
def W:List Nat:=[0,2,3,5,7,8,9,10,11,19,20,21,22]
def res (r:List api_FD):D×List D:=(.own (r.map Aa1),[])
def C (x0 r:List api_FD):Prop:=Ret env 143 [.sl (x0.map Aa1)] (res r).1 (res r).2
def L1 (x0 z0:List api_FD) (z1:Int) (φ:List api_FD->Prop):Prop:=Pt env 143 W B [1,1,0,1,0] [(0,.sl (x0.map Aa1)),(3,.own (z0.map Aa1)),(8,.sl (x0.map Aa1)),(9,.lit (.int .i64 ((x0.length:Int)))),(10,.lit (.int .i64 z1))] (Lv env 143 Tryz.f143 1 res φ)
def L2 (x0 z0:List api_FD) (a1:api_FD) (z1:Int) (r3:List Int) (z2:Int) (φ:List api_FD->Prop):Prop:=Pt env 143 W B [1,1,0,1,0,0,1,1,0,0,1,1,0] [(0,.sl (x0.map Aa1)),(3,.own (z0.map Aa1)),(5,.box [.lit (.int .u32 a1.Lhs),.lit (.int .u32 a1.Rhs)]),(8,.sl (x0.map Aa1)),(9,.lit (.int .i64 ((x0.length:Int)))),(10,.lit (.int .i64 z1)),(19,.own (r3.map (eI .i64))),(20,.lit (.int .i64 ((r3.length:Int)))),(21,.lit (.int .i64 z2))] (Lv env 143 Tryz.f143 1 res φ)
theorem L1_step (x0 z0:List api_FD) (z1:Int) (φ:List api_FD->Prop) (h :
 (if z1<(x0.length:Int) then
 ∃ a1,lget x0 z1=some a1 /\
 ∃ r3:List Int,q58_.C ((Aaa .u32 a1.Rhs a1.Lhs)) r3 /\
 q87_.L2 x0 z0 a1 z1 r3 0 φ
 else
 ∃ r4:List api_FD,q91_.C z0 r4 /\
 φ r4)):L1 x0 z0 z1 φ:=
 mIn <|
 mAsk 2 h dT dF (fun h=>
 mIx 4 Aa1 h fun a1 h2 h=>
 mCal 10 h (fun _ h=>h) (hf:=(fun _=>Aai (Aae (e:=(eI .i64)) (fun _=>rfl)) rfl)) fun r3 _ h=>
 mLen 0 (eI .i64) r3 <|
 mFin 2 h) fun h=>
 mCal 5 h (fun _ h=>h) (hr:=by exact (Acp (Ad6 (s:=3) (ps:=[]) (l:=z0) (e:=Aa1) (e':=Aa1) (fun _=>rfl) (by kernel_rfl)) Ae0)) (hf:=(fun _=>Aai (Aae (e:=Aa1) (fun _=>rfl)) rfl)) fun r4 _ h=>
 mRet 2 h
theorem L2_step (x0 z0:List api_FD) (a1:api_FD) (z1:Int) (r3:List Int) (z2:Int) (φ:List api_FD->Prop) (h :
 (if z2<(r3.length:Int) then
 ∃ a5,lget r3 z2=some a5 /\
 0<=a5 /\
 (z0.length+1)*8<=140737488355328 /\
 q87_.L2 x0 ((z0++[(⟨a1.Lhs,(shlw .u32 1 a5)⟩:api_FD)])) a1 z1 r3 ((IntKind.wrap .i64 (z2+1))) φ
 else
 q87_.L1 x0 z0 ((IntKind.wrap .i64 (z1+1))) φ)):L2 x0 z0 a1 z1 r3 z2 φ:=
 mIn <|
 mAsk 2 h dT dF (fun h=>
 mIy 4 (eI .i64) h fun a5 h6 h=>
 mLd 0 (eI .i64) h6 <|
 h.elim fun h7 h=>
 mBi 7 (Adt (t:=35) (q:=.u32) (q':=.i64) (i1:=1) h7) <|
 mApp 2 Aa1 z0 ([(⟨a1.Lhs,(shlw .u32 1 a5)⟩:api_FD)]) h fun h=>
 mFin 6 h) fun h=>
 mFin 7 h
theorem enter (x0:List api_FD) (φ:List api_FD->Prop) (h :
 q87_.L1 x0 ([]) 0 φ):∃ r,φ r/\C x0 r:=
 mEnt (fd:=Tryz.f143) (body:=B) (V:=W) (res:=res) <|
 mLen 8 Aa1 x0 <|
 mFin 2 h
end q87_
namespace q82_
noncomputable def B:Code:=(Tryz.f147.body).getD .skip
def W:List Nat:=[0,1,4]
def res (r:List api_FD):D×List D:=(.own (r.map Aa1),[])
def C (x0:List api_FD) (x1:Int) (r:List api_FD):Prop:=Ret env 147 [.sl (x0.map Aa1),.lit (.int .i64 x1)] (res r).1 (res r).2
theorem enter (x0:List api_FD) (x1:Int) (φ:List api_FD->Prop) (h :
 0<=x1 /\
 (0<=x1.toNat/\x1.toNat<=x0.length) /\
 0<=(IntKind.wrap .i64 (x1+1)) /\
 (((IntKind.wrap .i64 (x1+1))).toNat<=x0.length/\x0.length<=x0.length) /\
 (((List.take (x1.toNat-0) x0)).length+((List.take (x0.length-((IntKind.wrap .i64 (x1+1))).toNat) (List.drop ((IntKind.wrap .i64 (x1+1))).toNat x0))).length)*8<=140737488355328 /\
 φ (((List.take (x1.toNat-0) x0)++(List.take (x0.length-((IntKind.wrap .i64 (x1+1))).toNat) (List.drop ((IntKind.wrap .i64 (x1+1))).toNat x0))))):∃ r,φ r/\C x0 x1 r:=
 mEnt (fd:=Tryz.f147) (body:=B) (V:=W) (res:=res) <|
 h.elim fun h1 h=>
 h.elim fun h2 h=>
 mVl 6 (Ahm (t:=29) (x:=(.tmp 5)) (lo:=none) (hi:=(some (.tmp 6))) (lo':=none) (hi':=some (x1).toNat) (e:=Aa1) (l:=x0) (et:=37) (k:=2) (by kernel_rfl) (by kernel_rfl) Adm (Acw (i:=x1) (q:=.i64) (by kernel_rfl) h1) (by kernel_rfl) (by kernel_rfl) (fun _=>rfl) (by kernel_rfl) h2.1 h2.2) <|
 h.elim fun h3 h=>
 h.elim fun h4 h=>
 mVl 3 (Ahm (t:=29) (x:=(.tmp 8)) (lo:=(some (.tmp 10))) (hi:=none) (lo':=some ((IntKind.wrap .i64 (x1+1))).toNat) (hi':=none) (e:=Aa1) (l:=x0) (et:=37) (k:=2) (by kernel_rfl) (by kernel_rfl) (Acw (i:=(IntKind.wrap .i64 (x1+1))) (q:=.i64) (by kernel_rfl) h3) Adm (by kernel_rfl) (by kernel_rfl) (fun _=>rfl) (by kernel_rfl) h4.1 h4.2) <|
 h.elim fun h5 h=>
 Asl 1 (show Ret env 193 [.sl (([(List.take (x1.toNat-0) x0),(List.take (x0.length-((IntKind.wrap .i64 (x1+1))).toNat) (List.drop ((IntKind.wrap .i64 (x1+1))).toNat x0))]).map (eSl Aa1))] (.own ((((List.take (x1.toNat-0) x0)++(List.take (x0.length-((IntKind.wrap .i64 (x1+1))).toNat) (List.drop ((IntKind.wrap .i64 (x1+1))).toNat x0)))).map Aa1)) [] from Bbs (k:=2) (b:=8) (e:=Aa1) (l:=(List.take (x1.toNat-0) x0)) (m:=(List.take (x0.length-((IntKind.wrap .i64 (x1+1))).toNat) (List.drop ((IntKind.wrap .i64 (x1+1))).toNat x0))) (by kernel_rfl) (fun _=>rfl) h5) (hr:=by exact (Acp (Ad6 (s:=12) (ps:=[]) (l:=[(List.take (x1.toNat-0) x0),(List.take (x0.length-((IntKind.wrap .i64 (x1+1))).toNat) (List.drop ((IntKind.wrap .i64 (x1+1))).toNat x0))]) (e:=(eSl Aa1)) (e':=(eSl Aa1)) (fun _=>rfl) (by kernel_rfl)) Ae0)) (hf:=(Aai (Aae (e:=Aa1) (fun _=>rfl)) rfl)) <|
 mRet 2 h
end q82_
namespace q61_
noncomputable def B:Code:=(Tryz.f146.body).getD .skip
def W:List Nat:=[0,1,4]
def res (r:Bool):D×List D:=(.lit (.bool r),[])
def C (x0:List api_FD) (x1:Int) (r:Bool):Prop:=Ret env 146 [.sl (x0.map Aa1),.lit (.int .i64 x1)] (res r).1 (res r).2
theorem enter (x0:List api_FD) (x1:Int) (φ:Bool->Prop) (h :
 ∃ r1:List api_FD,q82_.C x0 x1 r1 /\
 ∃ a2,lget x0 x1=some a2 /\
 ∃ r4:Bool,q59_.C r1 a2 r4 /\
 φ r4):∃ r,φ r/\C x0 x1 r:=
 mEnt (fd:=Tryz.f146) (body:=B) (V:=W) (res:=res) <|
 mLo 6 h (fun _ h=>h) (hf:=(fun _=>Axq (Aae (e:=Aa1) (fun _=>rfl)))) fun r1 _ h=>
 mIx 2 Aa1 h fun a2 h3 h=>
 mCal 1 h (fun _ h=>h) (hr:=by exact (Acp (Ad6 (s:=7) (ps:=[]) (l:=r1) (e:=Aa1) (e':=Aa1) (fun _=>rfl) (by kernel_rfl)) (pr_k Ae0))) fun r4 _ h=>
 mRet 2 h
end q61_
namespace q47_
noncomputable def B:Code:=(Tryz.f144.body).getD .skip
def W:List Nat:=[0,1,2,4,6]
def res (r:Bool):D×List D:=(.lit (.bool r),[])
def C (x0:List api_FD) (x1:api_FD) (x2:Int) (r:Bool):Prop:=Ret env 144 [.sl (x0.map Aa1),.agg [.lit (.int .u32 x1.Lhs),.lit (.int .u32 x1.Rhs)],.lit (.int .i64 x2)] (res r).1 (res r).2
theorem enter (x0:List api_FD) (x1:api_FD) (x2:Int) (φ:Bool->Prop) (h :
 0<=x2 /\
 ∃ r2:Bool,q59_.C x0 ((⟨(Aaa .u32 x1.Lhs (shlw .u32 1 x2)),x1.Rhs⟩:api_FD)) r2 /\
 φ r2):∃ r,φ r/\C x0 x1 x2 r:=
 mEnt (fd:=Tryz.f144) (body:=B) (V:=W) (res:=res) <|
 h.elim fun h1 h=>
 mBi 9 (Adt (t:=35) (q:=.u32) (q':=.i64) (i1:=1) h1) <|
 mCal 4 h (fun _ h=>h) fun r2 _ h=>
 mRet 2 h
end q47_
namespace q76_
noncomputable def B:Code:=(Tryz.f69.body).getD .skip
def W:List Nat:=[0,2,3,4,6,7,11,12,13,20,21,22,23,32,50,53]
def res (r:List api_FD):D×List D:=(.own (r.map Aa1),[])
def C (x0 r:List api_FD):Prop:=Ret env 69 [.sl (x0.map Aa1)] (res r).1 (res r).2
def L1 (r1:List api_FD) (z0 z1:Int) (φ:List api_FD->Prop):Prop:=Pt env 69 W B [1,1,0,1,0] [(3,.own (r1.map Aa1)),(11,.lit (.int .i64 z0)),(12,.lit (.int .i64 z1))] (Lv env 69 Tryz.f69 1 res φ)
def L2 (r1:List api_FD) (z0 z1 z2:Int) (r4:List Int) (z3:Int) (φ:List api_FD->Prop):Prop:=Pt env 69 W B [1,1,0,1,0,0,1,1,0,0,1,1,0] [(3,.own (r1.map Aa1)),(4,.lit (.int .i64 z0)),(11,.lit (.int .i64 z1)),(12,.lit (.int .i64 z2)),(20,.own (r4.map (eI .i64))),(21,.lit (.int .i64 ((r4.length:Int)))),(22,.lit (.int .i64 z3))] (Lv env 69 Tryz.f69 1 res φ)
def L3 (r5:List api_FD) (z0:Int) (φ:List api_FD->Prop):Prop:=Pt env 69 W B [1,1,1,1,0,1,0] [(3,.own (r5.map Aa1)),(7,.lit (.int .i64 z0))] (Lv env 69 Tryz.f69 1 res φ)
def L4 (z0:List api_FD) (z1 z2 z3:Int) (r4:List Int) (z4:Int) (φ:List api_FD->Prop):Prop:=Pt env 69 W B [1,1,0,1,0,0,1,1,0,0,1,1,0,0,1,1,1] [(3,.own (z0.map Aa1)),(4,.lit (.int .i64 z1)),(11,.lit (.int .i64 z2)),(12,.lit (.int .i64 z3)),(20,.own (r4.map (eI .i64))),(21,.lit (.int .i64 ((r4.length:Int)))),(22,.lit (.int .i64 z4))] (Lv env 69 Tryz.f69 1 res φ)
theorem L1_step (r1:List api_FD) (z0 z1:Int) (φ:List api_FD->Prop) (h :
 (if z1<z0 then
 ∃ a2,lget r1 z1=some a2 /\
 ∃ r4:List Int,q58_.C a2.Lhs r4 /\
 q76_.L2 r1 z1 z0 z1 r4 0 φ
 else
 ∃ r5:List api_FD,q91_.C r1 r5 /\
 q76_.L3 r5 0 φ)):L1 r1 z0 z1 φ:=
 mIn <|
 mAsk 2 h dT dF (fun h=>
 mIy 10 Aa1 h fun a2 h3 h=>
 mLd 1 Aa1 h3 <|
 mCal 0 h (fun _ h=>h) (hf:=(fun _=>Aai (Aae (e:=(eI .i64)) (fun _=>rfl)) rfl)) fun r4 _ h=>
 mLen 0 (eI .i64) r4 <|
 mFin 2 h) fun h=>
 mCal 5 h (fun _ h=>h) (hr:=by exact (Acp (Ad6 (s:=3) (ps:=[]) (l:=r1) (e:=Aa1) (e':=Aa1) (fun _=>rfl) (by kernel_rfl)) Ae0)) (hf:=(fun _=>Aai (Aae (e:=Aa1) (fun _=>rfl)) rfl)) fun r5 _ h=>
 mFin 5 h
theorem L2_step (r1:List api_FD) (z0 z1 z2:Int) (r4:List Int) (z3:Int) (φ:List api_FD->Prop) (h :
 (if z3<(r4.length:Int) then
 ∃ a6,lget r4 z3=some a6 /\
 ∃ a8,lget r1 z0=some a8 /\
 ∃ r10:Bool,q47_.C r1 a8 a6 r10 /\
 (if r10=true then
 0<=a6 /\
 q76_.L4 ((lset r1 z0 (⟨(Aaa .u32 a8.Lhs (shlw .u32 1 a6)),a8.Rhs⟩:api_FD))) z0 z1 z2 r4 z3 φ
 else
 q76_.L4 r1 z0 z1 z2 r4 z3 φ)
 else
 q76_.L1 r1 z1 ((IntKind.wrap .i64 (z2+1))) φ)):L2 r1 z0 z1 z2 r4 z3 φ:=
 mIn <|
 mAsk 2 h dT dF (fun h=>
 mIy 4 (eI .i64) h fun a6 h7 h=>
 mLd 0 (eI .i64) h7 <|
 mIy 6 Aa1 h fun a8 h9 h=>
 mLd 0 Aa1 h9 <|
 Adi 1 h (fun _ h=>h) (hr:=by exact (Acp (Ad6 (s:=3) (ps:=[]) (l:=r1) (e:=Aa1) (e':=Aa1) (fun _=>rfl) (by kernel_rfl)) (pr_k (pr_k Ae0)))) (fun _ h=>
 mIyf 5 Aa1 h9 <|
 mLd 1 Aa1 h9 <|
 h.elim fun h11 h=>
 mBi 1 (Adt (t:=35) (q:=.u32) (q':=.i64) (i1:=1) h11) <|
 mIyf 1 Aa1 h9 <|
 mSto 1 Aa1 ((⟨(Aaa .u32 a8.Lhs (shlw .u32 1 a6)),a8.Rhs⟩:api_FD)) h9 <|
 mFin 1 h) fun _ h=>
 mFin 3 h) fun h=>
 mFin 7 h
theorem L3_step (r5:List api_FD) (z0:Int) (φ:List api_FD->Prop) (h :
 (if z0<(r5.length:Int) then
 ∃ r12:Bool,q61_.C r5 z0 r12 /\
 (if r12=true then
 ∃ r13:List api_FD,q82_.C r5 z0 r13 /\
 q76_.L3 r13 z0 φ
 else
 q76_.L3 r5 ((IntKind.wrap .i64 (z0+1))) φ)
 else
 φ r5)):L3 r5 z0 φ:=
 mIn <|
 mLen 4 Aa1 r5 <|
 mAsk 0 h dT dF (fun h=>
 Adi 6 h (fun _ h=>h) (hr:=by exact (Acp (Ad6 (s:=3) (ps:=[]) (l:=r5) (e:=Aa1) (e':=Aa1) (fun _=>rfl) (by kernel_rfl)) (pr_k Ae0))) (fun _ h=>
 mCal 5 h (fun _ h=>h) (hr:=by exact (Acp (Ad6 (s:=3) (ps:=[]) (l:=r5) (e:=Aa1) (e':=Aa1) (fun _=>rfl) (by kernel_rfl)) (pr_k Ae0))) (hf:=(fun _=>Aai (Aae (e:=Aa1) (fun _=>rfl)) rfl)) fun r13 _ h=>
 mFin 2 h) fun _ h=>
 mFin 7 h) fun h=>
 mRet 7 h
theorem L4_step (z0:List api_FD) (z1 z2 z3:Int) (r4:List Int) (z4:Int) (φ:List api_FD->Prop) (h :
 q76_.L2 z0 z1 z2 z3 r4 ((IntKind.wrap .i64 (z4+1))) φ):L4 z0 z1 z2 z3 r4 z4 φ:=
 mIn <|
 mFin 4 h
theorem enter (x0:List api_FD) (φ:List api_FD->Prop) (h :
 ∃ r1:List api_FD,q87_.C x0 r1 /\
 q76_.L1 r1 ((r1.length:Int)) 0 φ):∃ r,φ r/\C x0 r:=
 mEnt (fd:=Tryz.f69) (body:=B) (V:=W) (res:=res) <|
 mCal 5 h (fun _ h=>h) (hf:=(fun _=>Aai (Aae (e:=Aa1) (fun _=>rfl)) rfl)) fun r1 _ h=>
 mLen 4 Aa1 r1 <|
 mFin 2 h
end q76_
namespace q77_
noncomputable def B:Code:=(Tryz.f20.body).getD .skip
def W:List Nat:=[0,1,4,5,6,11]
def res (r:List api_FD×Int):D×List D:=(.tup [.own (r.1.map Aa1),.lit (.int .i64 r.2)],[])
def C (x0:Int) (x1:List api_FD) (r:List api_FD×Int):Prop:=Ret env 20 [.lit (.int .i64 x0),.sl (x1.map Aa1)] (res r).1 (res r).2
theorem enter (x0:Int) (x1:List api_FD) (φ:List api_FD×Int->Prop) (h :
 ∃ r1:Int,q71_.C x0 x1 r1 /\
 (if r1=0 then
 ∃ r2:List api_FD,q76_.C x1 r2 /\
 φ ((r2,0))
 else
 φ (([],r1)))):∃ r,φ r/\C x0 x1 r:=
 mEnt (fd:=Tryz.f20) (body:=B) (V:=W) (res:=res) <|
 mCal 7 h (fun _ h=>h) fun r1 _ h=>
 Ab7 4 h Ab6 Ab5 (fun h=>
 mRet 7 h) fun h=>
 mCal 5 h (fun _ h=>h) (hf:=(fun _=>Aai (Aae (e:=Aa1) (fun _=>rfl)) rfl)) fun r2 _ h=>
 mRet 3 h
end q77_
namespace q88_
noncomputable def B:Code:=(Tryz.f70.body).getD .skip
def W:List Nat:=[0,2,3,4,6,7,9,11,12,13,14,31,32,33,34]
def res (r:List api_FD):D×List D:=(.own (r.map Aa1),[])
def C (x0 r:List api_FD):Prop:=Ret env 70 [.sl (x0.map Aa1)] (res r).1 (res r).2
def L1 (x0:List api_FD) (z0:List (Int×Int)) (z1:List Int) (z2:Int) (φ:List api_FD->Prop):Prop:=Pt env 70 W B [1,1,1,0,1,0] [(0,.sl (x0.map Aa1)),(3,(eMap (Value.int .u32) (fun (x:Int)=>D.lit (.int .u32 x)) z0)),(4,.own (z1.map (eI .u32))),(11,.sl (x0.map Aa1)),(12,.lit (.int .i64 ((x0.length:Int)))),(13,.lit (.int .i64 z2))] (Lv env 70 Tryz.f70 1 res φ)
def L2 (z0:List (Int×Int)) (z1:List api_FD) (r4:List Int) (z2:Int) (φ:List api_FD->Prop):Prop:=Pt env 70 W B [1,1,1,1,1,0,1,0] [(3,(eMap (Value.int .u32) (fun (x:Int)=>D.lit (.int .u32 x)) z0)),(7,.own (z1.map Aa1)),(31,.sl (r4.map (eI .u32))),(32,.lit (.int .i64 ((r4.length:Int)))),(33,.lit (.int .i64 z2))] (Lv env 70 Tryz.f70 1 res φ)
theorem L1_step (x0:List api_FD) (z0:List (Int×Int)) (z1:List Int) (z2:Int) (φ:List api_FD->Prop) (h :
 (if z2<(x0.length:Int) then
 ∃ a1,lget x0 z2=some a1 /\
 (z1.length+1)*4<=140737488355328 /\
 q88_.L1 x0 ((mset a1.Lhs (bOr .u32 (Ac1 a1.Lhs z0 0) a1.Rhs) z0)) ((z1++[a1.Lhs])) ((IntKind.wrap .i64 (z2+1))) φ
 else
 ∃ r4:List Int,q74_.C z1 r4 /\
 q88_.L2 z0 ([]) r4 0 φ)):L1 x0 z0 z1 z2 φ:=
 mIn <|
 mAsk 2 h dT dF (fun h=>
 mIx 4 Aa1 h fun a1 h2 h=>
 mVl 8 (Akg Aog (fun _=>by kernel_rfl) (ek:=(Value.int .u32)) (ev:=(fun (x:Int)=>D.lit (.int .u32 x))) (t:=244) (x:=(.tmp 17)) (kx:=(.tmp 19)) (s:=3) (ps:=[]) (l:=z0) (kd:=.lit (.int .u32 a1.Lhs)) (kv:=a1.Lhs) (kt:=35) (vt:=35) (v0:=0) (by kernel_rfl) (by kernel_rfl) (by kernel_rfl) (by kernel_rfl) (by kernel_rfl) (by kernel_rfl) (by kernel_rfl) (by kernel_rfl)) <|
 mOp 3 (Ak4 Aog (fun _=>by kernel_rfl) (ek:=(Value.int .u32)) (ev:=(fun (x:Int)=>D.lit (.int .u32 x))) (t:=244) (mx:=(.tmp 17)) (kx:=(.tmp 19)) (vx:=(.tmp 23)) (s:=3) (ps:=[]) (l:=z0) (kd:=.lit (.int .u32 a1.Lhs)) (kv:=a1.Lhs) (kt:=35) (vt:=35) (v:=(bOr .u32 (Ac1 a1.Lhs z0 0) a1.Rhs)) (d:=.lit (.int .u32 ((bOr .u32 (Ac1 a1.Lhs z0 0) a1.Rhs)))) (by kernel_rfl) (by kernel_rfl) (by kernel_rfl) (by kernel_rfl) (by kernel_rfl) (by kernel_rfl) (by kernel_rfl) (by kernel_rfl) (by kernel_rfl) (Ajm (by kernel_rfl))) <|
 mApp 6 (eI .u32) z1 ([a1.Lhs]) h fun h=>
 mFin 6 h) fun h=>
 Bly 8 (s:=4) (ps:=[]) (l:=z1) (e:=(eI .u32)) (e':=(eI .u32)) h (fun _ h=>h) (fun _=>rfl) (hr:=by exact (Acp (Ad6 (s:=4) (ps:=[]) (l:=z1) (e:=(eI .u32)) (e':=(eI .u32)) (fun _=>rfl) (by kernel_rfl)) Ae0)) (k:=fun r4 _ h=>
 mLen 0 (eI .u32) r4 <|
 mFin 2 h)
 (k2:=fun r4 _ h=>
 mLen 0 (eI .u32) r4 <|
 mFin 2 h)
theorem L2_step (z0:List (Int×Int)) (z1:List api_FD) (r4:List Int) (z2:Int) (φ:List api_FD->Prop) (h :
 (if z2<(r4.length:Int) then
 ∃ a5,lget r4 z2=some a5 /\
 (z1.length+1)*8<=140737488355328 /\
 q88_.L2 z0 ((z1++[(⟨a5,(Ac1 a5 z0 0)⟩:api_FD)])) r4 ((IntKind.wrap .i64 (z2+1))) φ
 else
 φ z1)):L2 z0 z1 r4 z2 φ:=
 mIn <|
 mAsk 2 h dT dF (fun h=>
 mIx 4 (eI .u32) h fun a5 h6 h=>
 mVl 8 (Akg Aog (fun _=>by kernel_rfl) (ek:=(Value.int .u32)) (ev:=(fun (x:Int)=>D.lit (.int .u32 x))) (t:=244) (x:=(.tmp 39)) (kx:=(.tmp 40)) (s:=3) (ps:=[]) (l:=z0) (kd:=.lit (.int .u32 a5)) (kv:=a5) (kt:=35) (vt:=35) (v0:=0) (by kernel_rfl) (by kernel_rfl) (by kernel_rfl) (by kernel_rfl) (by kernel_rfl) (by kernel_rfl) (by kernel_rfl) (by kernel_rfl)) <|
 mApp 2 Aa1 z1 ([(⟨a5,(Ac1 a5 z0 0)⟩:api_FD)]) h fun h=>
 mFin 6 h) fun h=>
 mRet 7 h
theorem enter (x0:List api_FD) (φ:List api_FD->Prop) (h :
 q88_.L1 x0 ([]) ([]) 0 φ):∃ r,φ r/\C x0 r:=
 mEnt (fd:=Tryz.f70) (body:=B) (V:=W) (res:=res) <|
 mLen 12 Aa1 x0 <|
 mFin 2 h
end q88_
namespace q62_
noncomputable def B:Code:=(Tryz.f21.body).getD .skip
def W:List Nat:=[0,1,4,5,6,7]
def res (r:List api_FD×Int):D×List D:=(.tup [.own (r.1.map Aa1),.lit (.int .i64 r.2)],[])
def C (x0:Int) (x1:List api_FD) (r:List api_FD×Int):Prop:=Ret env 21 [.lit (.int .i64 x0),.sl (x1.map Aa1)] (res r).1 (res r).2
theorem enter (x0:Int) (x1:List api_FD) (φ:List api_FD×Int->Prop) (h :
 ∃ r1:List api_FD×Int,q77_.C x0 x1 r1 /\
 ∃ r2:List api_FD,q88_.C r1.1 r2 /\
 φ ((r2,r1.2))):∃ r,φ r/\C x0 x1 r:=
 mEnt (fd:=Tryz.f21) (body:=B) (V:=W) (res:=res) <|
 mCal 7 h (fun _ h=>h) (hf:=(fun _=>Aai (Aaz (Aa4 (Aae (e:=Aa1) (fun _=>rfl)) (Aa4 rfl Aao))) rfl)) fun r1 _ h=>
 mCal 8 h (fun _ h=>h) (hr:=by exact (Acp (Ad6 (s:=6) (ps:=[]) (l:=r1.1) (e:=Aa1) (e':=Aa1) (fun _=>rfl) (by kernel_rfl)) Ae0)) (hf:=(fun _=>Aai (Aae (e:=Aa1) (fun _=>rfl)) rfl)) fun r2 _ h=>
 mRet 4 h
end q62_
namespace q83_
noncomputable def B:Code:=(Tryz.f73.body).getD .skip
def W:List Nat:=[0,1,2,6,7,8,9,10,11,12,13,14,15,16,28,47,48]
def res (r:List Int):D×List D:=(.sl (r.map (eI .u32)),[])
def C (x0:Int) (x1:List Bool) (x2:Bool) (r:List Int):Prop:=Ret env 73 [.lit (.int .i64 x0),.sl (x1.map eB),.lit (.bool x2)] (res r).1 (res r).2
def L1 (x0:Int) (x1:List Bool) (x2:Bool) (z0:List Int) (z1:Int) (φ:List Int->Prop):Prop:=Pt env 73 W B [1,1,0,1,0] [(0,.lit (.int .i64 x0)),(1,.sl (x1.map eB)),(2,.lit (.bool x2)),(7,.own (z0.map (eI .u32))),(13,.sl (x1.map eB)),(14,.lit (.int .i64 ((x1.length:Int)))),(15,.lit (.int .i64 z1))] (Lv env 73 Tryz.f73 3 res φ)
def L2 (x0:Int) (x1:List Bool) (x2:Bool) (z0:List Int) (z1:Int) (z2:Bool) (z3 z4:Int) (φ:List Int->Prop):Prop:=Pt env 73 W B [1,1,0,1,0,0,1,1,0,0,1,1,0,1,0] [(0,.lit (.int .i64 x0)),(1,.sl (x1.map eB)),(2,.lit (.bool x2)),(7,.own (z0.map (eI .u32))),(8,.lit (.int .i64 z1)),(10,.lit (.bool z2)),(11,.lit (.int .i64 z3)),(13,.sl (x1.map eB)),(14,.lit (.int .i64 ((x1.length:Int)))),(15,.lit (.int .i64 z4))] (Lv env 73 Tryz.f73 3 res φ)
def L3 (x0:Int) (x1:List Bool) (x2:Bool) (z0:List Int) (z1:Int) (z2:Bool) (z3 z4:Int) (φ:List Int->Prop):Prop:=Pt env 73 W B [1,1,0,1,0,0,1,1,0,0,1,1,0,1,0,0,1,1] [(0,.lit (.int .i64 x0)),(1,.sl (x1.map eB)),(2,.lit (.bool x2)),(7,.own (z0.map (eI .u32))),(8,.lit (.int .i64 z1)),(10,.lit (.bool z2)),(11,.lit (.int .i64 z3)),(13,.sl (x1.map eB)),(14,.lit (.int .i64 ((x1.length:Int)))),(15,.lit (.int .i64 z4))] (Lv env 73 Tryz.f73 3 res φ)
def L5 (x0:Int) (x1:List Bool) (x2:Bool) (z0:List Int) (z1:Int) (z2:Bool) (z3:Int) (φ:List Int->Prop):Prop:=Pt env 73 W B [1,1,0,1,0,0,1,1,0,0,1,1,1,0] [(0,.lit (.int .i64 x0)),(1,.sl (x1.map eB)),(2,.lit (.bool x2)),(7,.own (z0.map (eI .u32))),(8,.lit (.int .i64 z1)),(10,.lit (.bool z2)),(13,.sl (x1.map eB)),(14,.lit (.int .i64 ((x1.length:Int)))),(15,.lit (.int .i64 z3))] (Lv env 73 Tryz.f73 3 res φ)
def L4 (x0:Int) (x1:List Bool) (x2:Bool) (z0:List Int) (z1:Int) (φ:List Int->Prop):Prop:=Pt env 73 W B [1,1,0,1,0,0,1,1,1] [(0,.lit (.int .i64 x0)),(1,.sl (x1.map eB)),(2,.lit (.bool x2)),(7,.own (z0.map (eI .u32))),(13,.sl (x1.map eB)),(14,.lit (.int .i64 ((x1.length:Int)))),(15,.lit (.int .i64 z1))] (Lv env 73 Tryz.f73 3 res φ)
theorem L1_step (x0:Int) (x1:List Bool) (x2:Bool) (z0:List Int) (z1:Int) (φ:List Int->Prop) (h :
 (if z1<(x1.length:Int) then
 ∃ a1,lget x1 z1=some a1 /\
 q83_.L2 x0 x1 x2 z0 z1 ((a1 == x2)) 0 z1 φ
 else
 ∃ r3:List Int,q74_.C z0 r3 /\
 φ r3)):L1 x0 x1 x2 z0 z1 φ:=
 mIn <|
 mAsk 2 h dT dF (fun h=>
 mIx 5 eB h fun a1 h2 h=>
 mFin 13 h) fun h=>
 mXit 2 [(7,.sl (z0.map (eI .u32)))] (Aln (F0:=[(7,.own (z0.map (eI .u32)))]) (l:=z0) (e:=(eI .u32)) (e':=(eI .u32)) (s:=7) (by kernel_rfl) (by kernel_rfl) (by kernel_rfl) (fun _=>rfl) (by kernel_rfl) (by kernel_rfl)) <|
 mCal 2 h (fun _ h=>h) (hf:=(fun _=>Adr)) fun r3 _ h=>
 mRet 2 h
theorem L2_step (x0:Int) (x1:List Bool) (x2:Bool) (z0:List Int) (z1:Int) (z2:Bool) (z3 z4:Int) (φ:List Int->Prop) (h :
 (if z3<x0 then
 (if z2=true then
 0<=z3 /\
 (if (decide ((bXor .i64 z1 (shlw .i64 1 z3))<z1))=x2 then
 ∃ a5,lget x1 ((bXor .i64 z1 (shlw .i64 1 z3)))=some a5 /\
 (if a5=x2 then
 q83_.L3 x0 x1 x2 z0 z1 false z3 z4 φ
 else
 q83_.L3 x0 x1 x2 z0 z1 z2 z3 z4 φ)
 else
 q83_.L3 x0 x1 x2 z0 z1 z2 z3 z4 φ)
 else
 q83_.L5 x0 x1 x2 z0 z1 z2 z4 φ)
 else
 q83_.L5 x0 x1 x2 z0 z1 z2 z4 φ)):L2 x0 x1 x2 z0 z1 z2 z3 z4 φ:=
 mIn <|
 mAsk 4 h dT dF (fun h=>
 mAsk 1 h id fls (fun h=>
 h.elim fun h4 h=>
 mBi 7 (Adt (t:=3) (q:=.i64) (q':=.i64) (i1:=1) h4) <|
 mAsk 8 h Bcs Bcr (fun h=>
 mIx 3 eB h fun a5 h6 h=>
 mAsk 2 h Bcs Bcr (fun h=>
 mFin 6 h) fun h=>
 mFin 4 h) fun h=>
 mFin 11 h) fun h=>
 mFin 4 h) fun h=>
 mFin 6 h
theorem L3_step (x0:Int) (x1:List Bool) (x2:Bool) (z0:List Int) (z1:Int) (z2:Bool) (z3 z4:Int) (φ:List Int->Prop) (h :
 q83_.L2 x0 x1 x2 z0 z1 z2 ((IntKind.wrap .i64 (z3+1))) z4 φ):L3 x0 x1 x2 z0 z1 z2 z3 z4 φ:=
 mIn <|
 mFin 5 h
theorem L5_step (x0:Int) (x1:List Bool) (x2:Bool) (z0:List Int) (z1:Int) (z2:Bool) (z3:Int) (φ:List Int->Prop) (h :
 (if z2=true then
 (z0.length+1)*4<=140737488355328 /\
 q83_.L4 x0 x1 x2 ((z0++[(IntKind.wrap .u32 z1)])) z3 φ
 else
 q83_.L4 x0 x1 x2 z0 z3 φ)):L5 x0 x1 x2 z0 z1 z2 z3 φ:=
 mIn <|
 mAsk 1 h id fls (fun h=>
 mApp 7 (eI .u32) z0 ([(IntKind.wrap .u32 z1)]) h fun h=>
 mFin 2 h) fun h=>
 mFin 3 h
theorem L4_step (x0:Int) (x1:List Bool) (x2:Bool) (z0:List Int) (z1:Int) (φ:List Int->Prop) (h :
 q83_.L1 x0 x1 x2 z0 ((IntKind.wrap .i64 (z1+1))) φ):L4 x0 x1 x2 z0 z1 φ:=
 mIn <|
 mFin 4 h
theorem enter (x0:Int) (x1:List Bool) (x2:Bool) (φ:List Int->Prop) (h :
 q83_.L1 x0 x1 x2 ([]) 0 φ):∃ r,φ r/\C x0 x1 x2 r:=
 mEnt (fd:=Tryz.f73) (body:=B) (V:=W) (res:=res) <|
 mLen 8 eB x1 <|
 mFin 2 h
end q83_
namespace q94_
noncomputable def B:Code:=(Tryz.f148.body).getD .skip
def W:List Nat:=[0,2]
def res (r:Int):D×List D:=(.lit (.int .u32 r),[])
def C (x0 r:Int):Prop:=Ret env 148 [.lit (.int .i64 x0)] (res r).1 (res r).2
theorem enter (x0:Int) (φ:Int->Prop) (h :
 0<=x0 /\
 φ ((IntKind.wrap .u32 ((shlw .u32 1 x0)-1)))):∃ r,φ r/\C x0 r:=
 mEnt (fd:=Tryz.f148) (body:=B) (V:=W) (res:=res) <|
 h.elim fun h1 h=>
 mBi 5 (Adt (t:=35) (q:=.u32) (q':=.i64) (i1:=1) h1) <|
 mRet 3 h
end q94_
namespace q89_
noncomputable def B:Code:=(Tryz.f74.body).getD .skip
def W:List Nat:=[0,1,4,5,6,11,12,13]
def res (r:List Bool):D×List D:=(.own (r.map eB),[])
def C (x0:Int) (x1:List api_FD) (r:List Bool):Prop:=Ret env 74 [.lit (.int .i64 x0),.sl (x1.map Aa1)] (res r).1 (res r).2
def L1 (x0:Int) (x1:List api_FD) (z0:List Bool) (z1:Int) (φ:List Bool->Prop):Prop:=Pt env 74 W B [1,1,0,1,0] [(0,.lit (.int .i64 x0)),(1,.sl (x1.map Aa1)),(5,.own (z0.map eB)),(11,.lit (.int .i64 (((List.replicate ((shlw .i64 1 x0)).toNat false).length:Int)))),(12,.lit (.int .i64 z1))] (Lv env 74 Tryz.f74 2 res φ)
theorem L1_step (x0:Int) (x1:List api_FD) (z0:List Bool) (z1:Int) (φ:List Bool->Prop) (h :
 (if z1<((List.replicate ((shlw .i64 1 x0)).toNat false).length:Int) then
 ∃ r3:Int,q75_.C x1 ((IntKind.wrap .u32 z1)) r3 /\
 ∃ r4:Int,q94_.C x0 r4 /\
 ∃ a5,lget z0 z1=some a5 /\
 q89_.L1 x0 x1 ((lset z0 z1 (r3 == r4))) ((IntKind.wrap .i64 (z1+1))) φ
 else
 φ z0)):L1 x0 x1 z0 z1 φ:=
 mIn <|
 mAsk 2 h dT dF (fun h=>
 mCal 13 h (fun _ h=>h) fun r3 _ h=>
 mCal 1 h (fun _ h=>h) fun r4 _ h=>
 mIy 1 eB h fun a5 h6 h=>
 mSto 0 eB ((r3 == r4)) h6 <|
 mFin 5 h) fun h=>
 mRet 7 h
theorem enter (x0:Int) (x1:List api_FD) (φ:List Bool->Prop) (h :
 0<=x0 /\
 (0<=(shlw .i64 1 x0)/\(shlw .i64 1 x0)*1<=281474976710656) /\
 q89_.L1 x0 x1 ((List.replicate ((shlw .i64 1 x0)).toNat false)) 0 φ):∃ r,φ r/\C x0 x1 r:=
 mEnt (fd:=Tryz.f74) (body:=B) (V:=W) (res:=res) <|
 h.elim fun h1 h=>
 mBi 5 (Adt (t:=3) (q:=.i64) (q':=.i64) (i1:=1) h1) <|
 h.elim fun h2 h=>
 mVl 0 (Ane (t:=147) (x:=(.tmp 8)) (y:=(.tmp 8)) (q:=.i64) (i:=(shlw .i64 1 x0)) (et:=4) (z:=.lit (.bool false)) (e:=eB) (a:=false) (k:=1) (by kernel_rfl) (by kernel_rfl) (by kernel_rfl) (by kernel_rfl) (by kernel_rfl) (by kernel_rfl) (by kernel_rfl) (by kernel_rfl) (by kernel_rfl) (by kernel_rfl) h2.1 h2.2) <|
 mLen 4 eB ((List.replicate ((shlw .i64 1 x0)).toNat false)) <|
 mFin 2 h
end q89_
namespace q95_
noncomputable def B:Code:=(Tryz.f23.body).getD .skip
def W:List Nat:=[0,1,4,5,6,11]
def res (r:List Int×Int):D×List D:=(.tup [.sl (r.1.map (eI .u32)),.lit (.int .i64 r.2)],[])
def C (x0:Int) (x1:List api_FD) (r:List Int×Int):Prop:=Ret env 23 [.lit (.int .i64 x0),.sl (x1.map Aa1)] (res r).1 (res r).2
theorem enter (x0:Int) (x1:List api_FD) (φ:List Int×Int->Prop) (h :
 ∃ r1:Int,q71_.C x0 x1 r1 /\
 (if r1=0 then
 ∃ r2:List Bool,q89_.C x0 x1 r2 /\
 ∃ r3:List Int,q83_.C x0 r2 true r3 /\
 φ ((r3,0))
 else
 φ (([],r1)))):∃ r,φ r/\C x0 x1 r:=
 mEnt (fd:=Tryz.f23) (body:=B) (V:=W) (res:=res) <|
 mCal 7 h (fun _ h=>h) fun r1 _ h=>
 Ab7 4 h Ab6 Ab5 (fun h=>
 mRet 7 h) fun h=>
 Akw 7 h (fun _ h=>h) (fun (r2:List Bool)=>Azo (l:=r2) (e:=eB) (e':=eB) rfl (fun _=>rfl)) (hf:=(fun _=>Aai (Aae (e:=eB) (fun _=>rfl)) rfl)) fun r2 _ h=>
 mCal 0 h (fun _ h=>h) (hf:=(fun _=>Adr)) fun r3 _ h=>
 mRet 3 h
end q95_
namespace q92_
noncomputable def B:Code:=(Tryz.f24.body).getD .skip
def W:List Nat:=[0,1,4,5,6,7,8,10,17,18,19,20]
def res (r:Int×Int):D×List D:=(.tup [.lit (.int .u32 r.1),.lit (.int .i64 r.2)],[])
def C (x0:Int) (x1:List api_FD) (r:Int×Int):Prop:=Ret env 24 [.lit (.int .i64 x0),.sl (x1.map Aa1)] (res r).1 (res r).2
def L1 (r1:List Int×Int) (z0 z1:Int) (φ:Int×Int->Prop):Prop:=Pt env 24 W B [1,1,1,0,1,0] [(6,.sl (r1.1.map (eI .u32))),(7,.lit (.int .i64 r1.2)),(8,.lit (.int .u32 z0)),(17,.sl (r1.1.map (eI .u32))),(18,.lit (.int .i64 ((r1.1.length:Int)))),(19,.lit (.int .i64 z1))] (Lv env 24 Tryz.f24 2 res φ)
theorem L1_step (r1:List Int×Int) (z0 z1:Int) (φ:Int×Int->Prop) (h :
 (if z1<(r1.1.length:Int) then
 ∃ a2,lget r1.1 z1=some a2 /\
 q92_.L1 r1 ((bOr .u32 z0 a2)) ((IntKind.wrap .i64 (z1+1))) φ
 else
 φ ((z0,r1.2)))):L1 r1 z0 z1 φ:=
 mIn <|
 mAsk 2 h dT dF (fun h=>
 mIx 4 (eI .u32) h fun a2 h3 h=>
 mFin 13 h) fun h=>
 mRet 9 h
theorem enter (x0:Int) (x1:List api_FD) (φ:Int×Int->Prop) (h :
 ∃ r1:List Int×Int,q95_.C x0 x1 r1 /\
 q92_.L1 r1 0 0 φ):∃ r,φ r/\C x0 x1 r:=
 mEnt (fd:=Tryz.f24) (body:=B) (V:=W) (res:=res) <|
 mCal 7 h (fun _ h=>h) (hf:=(fun _=>Adr)) fun r1 _ h=>
 mLen 11 (eI .u32) r1.1 <|
 mFin 2 h
end q92_
namespace q26_
noncomputable def B:Code:=(Tryz.f27.body).getD .skip
def W:List Nat:=[0,1,4,5,10,12,13,14,24]
def res (r:Bool):D×List D:=(.lit (.bool r),[])
def C (x0 x1:List Int) (r:Bool):Prop:=Ret env 27 [.sl (x0.map (eI .u32)),.sl (x1.map (eI .u32))] (res r).1 (res r).2
def L1 (x0 x1:List Int) (z0:Int) (φ:Bool->Prop):Prop:=Pt env 27 W B [1,1,0,1,0] [(0,.sl (x0.map (eI .u32))),(1,.sl (x1.map (eI .u32))),(12,.lit (.int .i64 ((x0.length:Int)))),(13,.lit (.int .i64 z0))] (Lv env 27 Tryz.f27 2 res φ)
theorem L1_step (x0 x1:List Int) (z0:Int) (φ:Bool->Prop) (h :
 (if z0<(x0.length:Int) then
 ∃ a1,lget x0 z0=some a1 /\
 ∃ a3,lget x1 z0=some a3 /\
 (if a1=a3 then
 q26_.L1 x0 x1 ((IntKind.wrap .i64 (z0+1))) φ
 else
 φ false)
 else
 φ true)):L1 x0 x1 z0 φ:=
 mIn <|
 mAsk 2 h dT dF (fun h=>
 mIx 10 (eI .u32) h fun a1 h2 h=>
 mIx 3 (eI .u32) h fun a3 h4 h=>
 Ab7 1 h Ab6 Ab5 (fun h=>
 mRet 5 h) fun h=>
 mFin 7 h) fun h=>
 mRet 6 h
theorem enter (x0 x1:List Int) (φ:Bool->Prop) (h :
 (if (x0.length:Int)=(x1.length:Int) then
 q26_.L1 x0 x1 0 φ
 else
 φ false)):∃ r,φ r/\C x0 x1 r:=
 mEnt (fd:=Tryz.f27) (body:=B) (V:=W) (res:=res) <|
 mLen 5 (eI .u32) x0 <|
 mLen 1 (eI .u32) x1 <|
 Ab7 0 h Ab6 Ab5 (fun h=>
 mRet 5 h) fun h=>
 mLen 5 (eI .u32) x0 <|
 mFin 2 h
end q26_
namespace q63_
noncomputable def B:Code:=(Tryz.f25.body).getD .skip
def W:List Nat:=[0,1,4,5,6,7,8,9,10,11,12,13,14,22,26,27,28,44,45,46,47,54,55,56,63]
def res (r:api_Table×Int):D×List D:=(.tup [.agg [.lit (.string r.1.Name),.own (r.1.Attrs.map eS),.own (r.1.Rows.map Ae3)],.lit (.int .i64 r.2)],[])
def C (x0:Int) (x1:List api_FD) (r:api_Table×Int):Prop:=Ret env 25 [.lit (.int .i64 x0),.sl (x1.map Aa1)] (res r).1 (res r).2
def L1 (x0:Int) (r1:List Int×Int) (z0:List ByteArray) (z1:Int) (φ:api_Table×Int->Prop):Prop:=Pt env 25 W B [1,1,1,1,0,1,0] [(0,.lit (.int .i64 x0)),(4,.box [.lit (.string ((⟨#[]⟩:ByteArray))),.own [],.own []]),(6,.own (r1.1.map (eI .u32))),(8,.box [.lit (.string ((⟨#[116]⟩:ByteArray))),.own (z0.map eS),.own []]),(26,.lit (.int .i64 x0)),(27,.lit (.int .i64 z1))] (Lv env 25 Tryz.f25 2 res φ)
def L2 (x0:Int) (z0:List ByteArray) (z1:List api_Row) (z2:List Int) (z3 z4:Int) (φ:api_Table×Int->Prop):Prop:=Pt env 25 W B [1,1,1,1,1,0,1,0] [(0,.lit (.int .i64 x0)),(4,.box [.lit (.string ((⟨#[]⟩:ByteArray))),.own [],.own []]),(8,.box [.lit (.string ((⟨#[116]⟩:ByteArray))),.own (z0.map eS),.own (z1.map Ae3)]),(44,.own (z2.map (eI .u32))),(45,.lit (.int .i64 z3)),(46,.lit (.int .i64 z4))] (Lv env 25 Tryz.f25 2 res φ)
def L3 (x0:Int) (z0:List ByteArray) (z1:List api_Row) (z2 a5 z3:Int) (z4:List api_Value) (z5:List Int) (z6 z7 z8:Int) (φ:api_Table×Int->Prop):Prop:=Pt env 25 W B [1,1,1,1,1,0,1,0,0,1,1,0,0,1,1,0,1,0] [(0,.lit (.int .i64 x0)),(4,.box [.lit (.string ((⟨#[]⟩:ByteArray))),.own [],.own []]),(8,.box [.lit (.string ((⟨#[116]⟩:ByteArray))),.own (z0.map eS),.own (z1.map Ae3)]),(10,.lit (.int .i64 z2)),(11,.lit (.int .u32 a5)),(12,.box [.lit (.int .i64 z3),.own (z4.map Aa5)]),(44,.own (z5.map (eI .u32))),(45,.lit (.int .i64 z6)),(46,.lit (.int .i64 z7)),(54,.lit (.int .i64 x0)),(55,.lit (.int .i64 z8))] (Lv env 25 Tryz.f25 2 res φ)
def L4 (x0:Int) (z0:List ByteArray) (z1:List api_Row) (z2 a5 z3:Int) (z4:List api_Value) (z5:Int) (z6:List Int) (z7 z8 z9:Int) (φ:api_Table×Int->Prop):Prop:=Pt env 25 W B [1,1,1,1,1,0,1,0,0,1,1,0,0,1,1,0,1,0,0,1,1,0,0,1,1,1] [(0,.lit (.int .i64 x0)),(4,.box [.lit (.string ((⟨#[]⟩:ByteArray))),.own [],.own []]),(8,.box [.lit (.string ((⟨#[116]⟩:ByteArray))),.own (z0.map eS),.own (z1.map Ae3)]),(10,.lit (.int .i64 z2)),(11,.lit (.int .u32 a5)),(12,.box [.lit (.int .i64 z3),.own (z4.map Aa5)]),(14,.box [.lit (.int .i64 1),.lit (.int .i64 z5),.lit (.string ((⟨#[]⟩:ByteArray)))]),(44,.own (z6.map (eI .u32))),(45,.lit (.int .i64 z7)),(46,.lit (.int .i64 z8)),(54,.lit (.int .i64 x0)),(55,.lit (.int .i64 z9))] (Lv env 25 Tryz.f25 2 res φ)
theorem L1_step (x0:Int) (r1:List Int×Int) (z0:List ByteArray) (z1:Int) (φ:api_Table×Int->Prop) (h :
 (if z1<x0 then
 (z0.length+1)*16<=140737488355328 /\
 q63_.L1 x0 r1 ((z0++[(Utf8.encode (IntKind.wrap .i32 (IntKind.wrap .i64 (97+z1))))])) ((IntKind.wrap .i64 (z1+1))) φ
 else
 ∃ r3:Int,q69_.C x0 r3 /\
 (([r3]).length+r1.1.length)*4<=140737488355328 /\
 q63_.L2 x0 z0 ([]) (([r3]++r1.1)) ((([r3]++r1.1).length:Int)) 0 φ)):L1 x0 r1 z0 z1 φ:=
 mIn <|
 mAsk 2 h dT dF (fun h=>
 mApp 15 eS z0 ([(Utf8.encode (IntKind.wrap .i32 (IntKind.wrap .i64 (97+z1))))]) h fun h=>
 mFin 7 h) fun h=>
 mCal 5 h (fun _ h=>h) fun r3 _ h=>
 h.elim fun h4 h=>
 mOp 2 (app3 (x:=(.tmp 42)) (y:=(.tmp 43)) (t:=59) (u:=59) (et:=35) (z:=.lit (.int .u32 0)) (k:=1) (c:=4) (e:=(eI .u32)) (l:=[r3]) (m:=r1.1) (by kernel_rfl) (by kernel_rfl) (by kernel_rfl) (by kernel_rfl) (by kernel_rfl) (by kernel_rfl) (Az3 (s:=6) (ps:=[]) (by kernel_rfl) (by kernel_rfl) (fun _=>rfl)) (by kernel_rfl) (by kernel_rfl) (by kernel_rfl) (by kernel_rfl) (fun _=>rfl) h4) <|
 mLen 0 (eI .u32) (([r3]++r1.1)) <|
 mFin 2 h
theorem L2_step (x0:Int) (z0:List ByteArray) (z1:List api_Row) (z2:List Int) (z3 z4:Int) (φ:api_Table×Int->Prop) (h :
 (if z4<z3 then
 ∃ a5,lget z2 z4=some a5 /\
 q63_.L3 x0 z0 z1 z4 a5 ((IntKind.wrap .i64 (z4+1))) ([]) z2 z3 z4 0 φ
 else
 φ (((⟨(⟨#[116]⟩:ByteArray),z0,z1⟩:api_Table),0)))):L2 x0 z0 z1 z2 z3 z4 φ:=
 mIn <|
 mAsk 2 h dT dF (fun h=>
 mIy 5 (eI .u32) h fun a5 h6 h=>
 mLd 0 (eI .u32) h6 <|
 mFin 14 h) fun h=>
 mRet 8 h
theorem L3_step (x0:Int) (z0:List ByteArray) (z1:List api_Row) (z2 a5 z3:Int) (z4:List api_Value) (z5:List Int) (z6 z7 z8:Int) (φ:api_Table×Int->Prop) (h :
 (if z8<x0 then
 0<=z8 /\
 (if (bAnd .u32 (shrw .u32 a5 z8) 1)=0 then
 q63_.L4 x0 z0 z1 z2 a5 z3 z4 z2 z5 z6 z7 z8 φ
 else
 q63_.L4 x0 z0 z1 z2 a5 z3 z4 0 z5 z6 z7 z8 φ)
 else
 (z1.length+1)*32<=140737488355328 /\
 q63_.L2 x0 z0 ((z1++[(⟨z3,z4⟩:api_Row)])) z5 z6 ((IntKind.wrap .i64 (z7+1))) φ)):L3 x0 z0 z1 z2 a5 z3 z4 z5 z6 z7 z8 φ:=
 mIn <|
 mAsk 2 h dT dF (fun h=>
 h.elim fun h7 h=>
 mBi 15 (Ape (t:=35) (q:=.u32) (q':=.i64) (i1:=a5) h7) <|
 mAsk 1 h Abz Aby (fun h=>
 mFin 7 h) fun h=>
 mFin 3 h) fun h=>
 mApp 8 Ae3 z1 ([(⟨z3,z4⟩:api_Row)]) h fun h=>
 mFin 7 h
theorem L4_step (x0:Int) (z0:List ByteArray) (z1:List api_Row) (z2 a5 z3:Int) (z4:List api_Value) (z5:Int) (z6:List Int) (z7 z8 z9:Int) (φ:api_Table×Int->Prop) (h :
 (z4.length+1)*32<=140737488355328 /\
 q63_.L3 x0 z0 z1 z2 a5 z3 ((z4++[(⟨1,z5,(⟨#[]⟩:ByteArray)⟩:api_Value)])) z6 z7 z8 ((IntKind.wrap .i64 (z9+1))) φ):L4 x0 z0 z1 z2 a5 z3 z4 z5 z6 z7 z8 z9 φ:=
 mIn <|
 mApp 5 Aa5 z4 ([(⟨1,z5,(⟨#[]⟩:ByteArray)⟩:api_Value)]) h fun h=>
 mFin 7 h
theorem enter (x0:Int) (x1:List api_FD) (φ:api_Table×Int->Prop) (h :
 ∃ r1:List Int×Int,q33_.C x0 x1 r1 /\
 (if r1.2=0 then
 q63_.L1 x0 r1 ([]) 0 φ
 else
 φ (((⟨(⟨#[]⟩:ByteArray),[],[]⟩:api_Table),r1.2)))):∃ r,φ r/\C x0 x1 r:=
 mEnt (fd:=Tryz.f25) (body:=B) (V:=W) (res:=res) <|
 mCal 7 h (fun _ h=>h) (hf:=(fun _=>Aai (Aaz (Aa4 (Aae (e:=(eI .u32)) (fun _=>rfl)) (Aa4 rfl Aao))) rfl)) fun r1 _ h=>
 Ab7 8 h Ab6 Ab5 (fun h=>
 mRet 8 h) fun h=>
 mFin 12 h
end q63_
end Go.Own
namespace Go.Own
def cls {α:Type} [DecidableEq α] (l:List α) (a:α):List Int:=((List.range l.length).filter fun k=>decide (l[k]? = some a)).map fun (k:Nat)=>(k:Int)
def fsts {α:Type} [DecidableEq α] (l:List α):List α:=l.foldl (fun acc a=>if a∈acc then acc else acc++[a]) []
def grpF {α:Type} [DecidableEq α] (l:List α):List (List Int):=((fsts l).map (cls l)).filter fun c=>decide (2<=c.length)
section
variable {α:Type} [DecidableEq α]
theorem Acy {l:List α} {a:α}:fsts (l++[a])=if a∈fsts l then fsts l else fsts l++[a]:=by
 unfold fsts;rw [List.foldl_append];rfl
theorem Agd {p:List α->Prop} (h0:p []) (h1:∀ l a,p l->p (l++[a])):∀ l,p l:=by
 intro l;have:∀ n (l:List α),l.length=n->p l:=by
  intro n
  induction n with
  | zero=>intro l hl;rw [List.length_eq_zero_iff.1 hl];exact h0
  | succ n ih=>
   intro l hl;have hne:l≠[]:=fun h=>by rw [h] at hl;simp at hl
   rw [← List.dropLast_concat_getLast hne];exact h1 _ _ (ih _ (by simp [hl]))
 exact this _ l rfl
theorem Ai1 {l:List α} {a:α}:a∈fsts l↔a∈l:=by
 refine Agd (p:=fun l=>a∈fsts l↔a∈l) (by simp [fsts]) (fun l b ih=>?_) l;rw [Acy]
 split
 ·rename_i hb;rw [ih];simp only [List.mem_append,List.mem_singleton];constructor
  ·exact .inl
  ·rintro (h | rfl)
   ·exact h
   ·have:a∈fsts l:=hb;exact ih.1 this
 ·simp only [List.mem_append,List.mem_singleton,ih]
theorem Bb4 {l:List α}:(fsts l).Nodup:=by
 refine Agd (p:=fun l=>(fsts l).Nodup) (by simp [fsts]) (fun l b ih=>?_) l;rw [Acy]
 split
 ·exact ih
 ·rename_i hb;rw [List.nodup_append];exact ⟨ih,by simp,fun x hx y hy=>by simp at hy;subst hy;exact fun h=>hb (h ▸ hx)⟩
theorem Amk {l:List α} {a b:α}:cls (l++[b]) a=if b=a then cls l a++[(l.length:Int)] else cls l a:=by
 unfold cls;rw [List.length_append,List.length_singleton,List.range_succ,List.filter_append,List.map_append];have h1:((List.range l.length).filter fun k=>decide ((l++[b])[k]? = some a))=(List.range l.length).filter fun k=>decide (l[k]? = some a):=by
  refine List.filter_congr fun k hk=>?_;rw [List.getElem?_append_left (by simpa using hk)]
 rw [h1];by_cases h:b=a
 ·simp [h]
 ·simp [h]
theorem Bh7 {l:List α} {a:α} (h:a ∉ l):cls l a=[]:=by
 unfold cls;have:((List.range l.length).filter fun k=>decide (l[k]? = some a))=[]:=by
  rw [List.filter_eq_nil_iff];intro k _ hk;exact h (List.mem_of_getElem? (by simpa using hk))
 rw [this];rfl
theorem Af1 {l:List α} {a:α} {i:Int}:i∈cls l a↔lget l i=some a:=by
 unfold cls;simp only [List.mem_map,List.mem_filter,List.mem_range,decide_eq_true_eq];constructor
 ·rintro ⟨k,⟨_,h⟩,rfl⟩;rw [Ab4];exact h
 ·intro h;obtain ⟨h0,h1⟩:=Abg h;exact ⟨i.toNat,⟨(List.getElem?_eq_some_iff.1 h1).1,h1⟩,by omega⟩
end
def Ae8 (c:List Int):Bool:=decide (2<=c.length)
theorem Av3 {c:List Int}:decide ((c.length:Int)<2)=!Ae8 c:=by
 unfold Ae8;by_cases h:(c.length:Int)<2
 ·have:¬ 2<=c.length:=by omega
  simp [h,this]
 ·have:2<=c.length:=by omega
  simp [h,this]
def Afe:List (List Int)->Nat->Int
 | [],_=>-1
 | c::cs,k=>if Ae8 c then Afe cs (k+1) else (k:Int)
theorem Anl:∀ {l:List (List Int)} {k:Nat},(Afe l k = -1/\∀ c∈l,Ae8 c=true)∨∃ n:Nat,Afe l k=((k+n:Nat):Int)/\n<l.length/\(∀ c∈l.take n,Ae8 c=true)/\∃ c,l[n]? = some c/\Ae8 c=false
 | [],_=>.inl ⟨rfl,by simp⟩
 | c::l,k=>by
  simp only [Afe];cases hc:Ae8 c with
  | false=>exact .inr ⟨0,by simp,by simp,by simp,c,rfl,hc⟩
  | true=>
   simp only [if_true];rcases Anl (l:=l) (k:=k+1) with ⟨h1,h2⟩ | ⟨n,h1,h2,h3,h4⟩
   ·exact .inl ⟨h1,by simpa [hc] using h2⟩
   ·refine .inr ⟨n+1,by rw [h1];congr 1;omega,by simpa using h2,by simpa [hc] using h3,by simpa using h4⟩
def ixn {α:Type} [DecidableEq α]:List α->α->Nat
 | [],_=>0
 | b::l,a=>if b=a then 0 else ixn l a+1
theorem Bdm {α:Type} [DecidableEq α] {a:α}:∀ {l:List α},a∈l->ixn l a<l.length
 | [],h=>by cases h
 | b::l,h=>by
  simp only [ixn,List.length_cons]
  split
  ·omega
  ·rename_i hb;have:=Bdm (l:=l) (a:=a) ((List.mem_cons.1 h).resolve_left fun h=>hb h.symm);omega
theorem Atv {α:Type} [DecidableEq α] {a:α}:∀ {l:List α},a∈l->l[ixn l a]? = some a
 | [],h=>by cases h
 | b::l,h=>by
  simp only [ixn]
  split
  ·rename_i hb;subst hb;rfl
  ·rename_i hb;rw [List.getElem?_cons_succ];exact Atv ((List.mem_cons.1 h).resolve_left fun h=>hb h.symm)
theorem Bdl {α:Type} [DecidableEq α] {a:α}:∀ {l m:List α},a∈l->ixn (l++m) a=ixn l a
 | [],_,h=>by cases h
 | b::l,m,h=>by
  simp only [List.cons_append,ixn]
  split
  ·rfl
  ·rename_i hb;rw [Bdl ((List.mem_cons.1 h).resolve_left fun h=>hb h.symm)]
theorem Axf {α:Type} [DecidableEq α] {a:α}:∀ {l:List α},a ∉ l->ixn (l++[a]) a=l.length
 | [],_=>by simp [ixn]
 | b::l,h=>by
  simp only [List.mem_cons,not_or] at h;simp only [List.cons_append,ixn,if_neg (Ne.symm h.1),List.length_cons];rw [Axf h.2]
theorem Axi {α:Type} [DecidableEq α] {a:α}:∀ {l:List α} {q:Nat},l.Nodup->l[q]? = some a->ixn l a=q
 | [],q,_,h=>by simp at h
 | b::l,0,_,h=>by
  simp only [List.getElem?_cons_zero,zJ] at h;simp [ixn,h]
 | b::l,q+1,hl,h=>by
  simp only [List.getElem?_cons_succ] at h;have hn:=List.nodup_cons.1 hl;have:b≠a:=fun hb=>hn.1 (hb ▸ List.mem_of_getElem? h);simp only [ixn,if_neg this,Axi hn.2 h]
def ixOf {α:Type} [DecidableEq α] (m:List (α×Int)) (ks:List α):Prop:=∀ a,mget a m=if a∈ks then some ((ixn ks a:Nat):Int) else none
theorem Aom {κ ν:Type} [DecidableEq κ] {k k':κ} {v:ν}:∀ {l:List (κ×ν)},mget k' (mset k v l)=if k=k' then some v else mget k' l
 | []=>by
  by_cases h:k=k'
  ·subst h;simp [mset,mget]
  ·simp [mset,mget,h,Ne.symm h]
 | (a,b)::l=>by
  have ih:=Aom (k:=k) (k':=k') (v:=v) (l:=l);simp only [mset];by_cases h1:k=a
  ·subst h1;simp only [if_true,mget];by_cases h2:k'=k
   ·subst h2;simp
   ·simp [h2,Ne.symm h2]
  ·simp only [if_neg h1,mget];by_cases h2:k'=a
   ·subst h2;simp [h1]
   ·simp only [if_neg h2];exact ih
end Go.Own
namespace Go.Own
open Go.Proofs D
set_option maxRecDepth 100000
set_option maxHeartbeats 4000000
namespace q29_
noncomputable def B:Code:=(Tryz.f191.body).getD .skip
def W:List Nat:=[0,2]
def res (r:Bool):D×List D:=(.lit (.bool r),[])
def C (x0:List Int) (r:Bool):Prop:=Ret env 191 [.sl (x0.map (eI .i64))] (res r).1 (res r).2
theorem enter (x0:List Int) (φ:Bool->Prop) (h :
 φ ((decide ((x0.length:Int)<2)))):∃ r,φ r/\C x0 r:=
 mEnt (fd:=Tryz.f191) (body:=B) (V:=W) (res:=res) <|
 mLen 5 (eI .i64) x0 <|
 mRet 3 h
end q29_
namespace q4_
noncomputable def B:Code:=(Tryz.f186.body).getD .skip
def W:List Nat:=[0,1,4,5,7,8,9,16]
def res (r:Int):D×List D:=(.lit (.int .i64 r),[])
def C (x0:List (List Int)) (r:Int):Prop:=Ret env 186 [.sl (x0.map (eSl (eI .i64))),.fn 191 []] (res r).1 (res r).2
def L1 (x0:List (List Int)) (z0:Int) (φ:Int->Prop):Prop:=Pt env 186 W B [1,0,1,0] [(0,.sl (x0.map (eSl (eI .i64)))),(1,.fn 191 []),(7,.lit (.int .i64 ((x0.length:Int)))),(8,.lit (.int .i64 z0))] (Lv env 186 Tryz.f186 2 res φ)
theorem L1_step (x0:List (List Int)) (z0:Int) (φ:Int->Prop) (h :
 (if z0<(x0.length:Int) then
 ∃ a1,lget x0 z0=some a1 /\
 ∃ r3:Bool,q29_.C a1 r3 /\
 (if r3=true then
 φ z0
 else
 q4_.L1 x0 ((IntKind.wrap .i64 (z0+1))) φ)
 else
 φ ((-1)))):L1 x0 z0 φ:=
 mIn <|
 mAsk 2 h dT dF (fun h=>
 mIx 11 (eSl (eI .i64)) h fun a1 h2 h=>
 Adi 1 h (fun _ h=>h) (fun _ h=>
 mRet 6 h) fun _ h=>
 mFin 7 h) fun h=>
 mRet 6 h
theorem enter (x0:List (List Int)) (φ:Int->Prop) (h :
 q4_.L1 x0 0 φ):∃ r,φ r/\C x0 r:=
 mEnt (fd:=Tryz.f186) (body:=B) (V:=W) (res:=res) <|
 mLen 5 (eSl (eI .i64)) x0 <|
 mFin 2 h
end q4_
namespace q3_
noncomputable def B:Code:=(Tryz.f190.body).getD .skip
def W:List Nat:=[0,1,4,5,6,7,12,19,29]
def res (r:(List (List Int)×Bool)):D×List D:=((sown (r.1.map (eSl (eI .i64))) r.2),[])
def C (k0_0:List (List Int)) (r:(List (List Int)×Bool)):Prop:=Ret env 190 [.own (k0_0.map (eSl (eI .i64))),.fn 191 []] (res r).1 (res r).2
def L1 (k0_0:List (List Int)) (r1 z0:Int) (φ:(List (List Int)×Bool)->Prop):Prop:=Pt env 190 W B [1,1,1,0,1,0] [(0,.own (k0_0.map (eSl (eI .i64)))),(1,.fn 191 []),(5,.lit (.int .i64 r1)),(6,.lit (.int .i64 z0))] (Lv env 190 Tryz.f190 2 res φ)
def L2 (k0_0:List (List Int)) (r1 z0:Int) (φ:(List (List Int)×Bool)->Prop):Prop:=Pt env 190 W B [1,1,1,0,1,0,0,1,1] [(0,.own (k0_0.map (eSl (eI .i64)))),(1,.fn 191 []),(5,.lit (.int .i64 r1)),(6,.lit (.int .i64 z0))] (Lv env 190 Tryz.f190 2 res φ)
theorem L1_step (k0_0:List (List Int)) (r1 z0:Int) (φ:(List (List Int)×Bool)->Prop) (h :
 (if z0<(k0_0.length:Int) then
 ∃ a2,lget k0_0 z0=some a2 /\
 ∃ r4:Bool,q29_.C a2 r4 /\
 (if r4=true then
 q3_.L2 k0_0 r1 z0 φ
 else
 ∃ a5,lget k0_0 r1=some a5 /\
 q3_.L2 ((lset k0_0 r1 a2)) ((IntKind.wrap .i64 (r1+1))) z0 φ)
 else
 0<=r1 /\
 (r1.toNat<=k0_0.length/\k0_0.length<=k0_0.length) /\
 r1.toNat+(k0_0.length-r1.toNat)<=k0_0.length /\
 0<=r1 /\
 r1.toNat+(k0_0.length-r1.toNat)<=k0_0.length /\
 r1.toNat<=k0_0.length /\
 (r1.toNat+(k0_0.length-r1.toNat)<=k0_0.length/\r1.toNat<=k0_0.length/\r1.toNat<=r1.toNat) /\
 φ (⟨(List.take r1.toNat k0_0),(!(((List.take r1.toNat k0_0)).isEmpty))⟩))):L1 k0_0 r1 z0 φ:=
 mIn <|
 mLen 4 (eSl (eI .i64)) k0_0 <|
 mAsk 0 h dT dF (fun h=>
 mIy 6 (eSl (eI .i64)) h fun a2 h3 h=>
 mLd 0 (eSl (eI .i64)) h3 <|
 Adi 5 h (fun _ h=>h) (fun _ h=>
 mFin 4 h) fun _ h=>
 mIy 7 (eSl (eI .i64)) h fun a5 h6 h=>
 mSto 0 (eSl (eI .i64)) a2 h6 <|
 mFin 6 h) fun h=>
 h.elim fun h7 h=>
 h.elim fun h8 h=>
 mVl 6 (Akh (s:=0) (ps:=[]) (t:=137) (x:=(.tmp 36)) (lo:=(some (.tmp 37))) (hi:=none) (lo':=some (r1).toNat) (hi':=none) (e:=(eSl (eI .i64))) (l:=k0_0) (et:=84) (k:=1) (by kernel_rfl) (by kernel_rfl) (Afv (by kernel_rfl)) (Acw (i:=r1) (q:=.i64) (by kernel_rfl) h7) Adm (by kernel_rfl) (by kernel_rfl) (fun _=>rfl) (by kernel_rfl) h8.1 h8.2) <|
 h.elim fun h9 h=>
 mOp 0 (Axy (t:=137) (x:=(.tmp 38)) (s:=0) (ps:=[]) (off:=r1.toNat) (len:=(k0_0.length-r1.toNat)) (l:=k0_0) (e:=(eSl (eI .i64))) (et:=84) (z:=.own []) (k:=1) (by kernel_rfl) (by kernel_rfl) (by kernel_rfl) (by kernel_rfl) (by kernel_rfl) (by kernel_rfl) (by kernel_rfl) (by kernel_rfl) (fun _=>rfl) h9 (by kernel_rfl)) <|
 h.elim fun h10 h=>
 h.elim fun h11 h=>
 h.elim fun h12 h=>
 mVl 4 (Ant (t:=137) (x:=(.tmp 39)) (hi:=(some (.tmp 40))) (hi':=r1.toNat) (e:=(eSl (eI .i64))) (l:=k0_0) (off:=r1.toNat) (len:=(k0_0.length-r1.toNat)) (z:=.own []) (et:=84) (k:=1) (s:=0) (ps:=[]) (by kernel_rfl) (by kernel_rfl) (by kernel_rfl) (Acw (i:=r1) (q:=.i64) (by kernel_rfl) h10) (by kernel_rfl) (by kernel_rfl) (fun _=>rfl) (by kernel_rfl) (by kernel_rfl) h11 h12) <|
 h.elim fun h13 h=>
 mRet 2 h (hl:=(Av7 (t:=4) (s:=0) (n:=r1.toNat) (m:=(List.take r1.toNat k0_0)) (e:=(eSl (eI .i64))) (es:=clr (eSl (eI .i64)) k0_0 r1.toNat (k0_0.length-r1.toNat) (.own [])) (by kernel_rfl) (by kernel_rfl) (by kernel_rfl) (by rw [Ati (by first | exact h13.1 | omega)];exact h13.2.1) (Awz h13.1 h13.2.2) (by kernel_rfl)))
theorem L2_step (k0_0:List (List Int)) (r1 z0:Int) (φ:(List (List Int)×Bool)->Prop) (h :
 q3_.L1 k0_0 r1 ((IntKind.wrap .i64 (z0+1))) φ):L2 k0_0 r1 z0 φ:=
 mIn <|
 mFin 5 h
theorem enter (k0_0:List (List Int)) (φ:(List (List Int)×Bool)->Prop) (h :
 ∃ r1:Int,q4_.C k0_0 r1 /\
 (if r1=(-1) then
 φ (⟨k0_0,true⟩)
 else
 q3_.L1 k0_0 r1 ((IntKind.wrap .i64 (r1+1))) φ)):∃ r,φ r/\C k0_0 r:=
 mEnt (fd:=Tryz.f190) (body:=B) (V:=W) (res:=res) <|
 mCal 6 h (fun _ h=>h) (hr:=by exact (Acp (Ad6 (s:=0) (ps:=[]) (l:=k0_0) (e:=(eSl (eI .i64))) (e':=(eSl (eI .i64))) (fun _=>rfl) (by kernel_rfl)) (pr_k Ae0))) fun r1 _ h=>
 mAsk 4 h Abz Aby (fun h=>
 mRet 6 h) fun h=>
 mFin 8 h
end q3_
namespace q30_
noncomputable def B:Code:=(Tryz.f142.body).getD .skip
def W:List Nat:=[0,2,3,4,5,6,7,8,10,11,12,13,24]
def res (r:List (List Int)):D×List D:=(.sl (r.map (eSl (eI .i64))),[])
def C (x0:List ByteArray) (r:List (List Int)):Prop:=Ret env 142 [.sl (x0.map eS)] (res r).1 (res r).2
def L1 (x0:List ByteArray) (z0:List (ByteArray×Int)) (z1:List (List Int)) (z2:Int) (φ:List (List Int)->Prop):Prop:=Pt env 142 W B [1,1,1,0,1,0] [(0,.sl (x0.map eS)),(3,(eMap Value.string (fun (x:Int)=>D.lit (.int .i64 x)) z0)),(4,.own (z1.map (eOw (eI .i64)))),(10,.sl (x0.map eS)),(11,.lit (.int .i64 ((x0.length:Int)))),(12,.lit (.int .i64 z2))] (Lv env 142 Tryz.f142 1 res φ)
def L2 (x0:List ByteArray) (z0:List (ByteArray×Int)) (z1:List (List Int)) (z2 z3:Int) (φ:List (List Int)->Prop):Prop:=Pt env 142 W B [1,1,1,0,1,0,0,1,1,0,0,1,1,1] [(0,.sl (x0.map eS)),(3,(eMap Value.string (fun (x:Int)=>D.lit (.int .i64 x)) z0)),(4,.own (z1.map (eOw (eI .i64)))),(5,.lit (.int .i64 z2)),(7,.lit (.int .i64 z3)),(10,.sl (x0.map eS)),(11,.lit (.int .i64 ((x0.length:Int)))),(12,.lit (.int .i64 z2))] (Lv env 142 Tryz.f142 1 res φ)
theorem L1_step (x0:List ByteArray) (z0:List (ByteArray×Int)) (z1:List (List Int)) (z2:Int) (φ:List (List Int)->Prop) (h :
 (if z2<(x0.length:Int) then
 ∃ a1,lget x0 z2=some a1 /\
 (if (mhas a1 z0)=true then
 q30_.L2 x0 z0 z1 z2 ((Ac1 a1 z0 0)) φ
 else
 (z1.length+1)*24<=140737488355328 /\
 q30_.L2 x0 ((mset a1 (z1.length:Int) z0)) ((z1++[[]])) z2 ((z1.length:Int)) φ)
 else
 ∃ r4:(List (List Int)×Bool),q3_.C z1 r4 /\
 φ r4.1)):L1 x0 z0 z1 z2 φ:=
 mIn <|
 mAsk 2 h dT dF (fun h=>
 mIx 5 eS h fun a1 h2 h=>
 mVl 7 (Aye Bdn (fun _=>by kernel_rfl) (ek:=Value.string) (ev:=(fun (x:Int)=>D.lit (.int .i64 x))) (t:=284) (x:=(.tmp 18)) (kx:=(.tmp 19)) (s:=3) (ps:=[]) (l:=z0) (kd:=.lit (.string a1)) (kv:=a1) (kt:=9) (vt:=3) (v0:=0) (by kernel_rfl) (by kernel_rfl) (by kernel_rfl) (by kernel_rfl) (by kernel_rfl) (by kernel_rfl) (by kernel_rfl) (by kernel_rfl)) <|
 mAsk 7 h id fls (fun h=>
 mFin 4 h) fun h=>
 mLen 5 (eOw (eI .i64)) z1 <|
 mOp 6 (Ak4 Bdn (fun _=>by kernel_rfl) (ek:=Value.string) (ev:=(fun (x:Int)=>D.lit (.int .i64 x))) (t:=284) (mx:=(.tmp 27)) (kx:=(.tmp 28)) (vx:=(.tmp 29)) (s:=3) (ps:=[]) (l:=z0) (kd:=.lit (.string a1)) (kv:=a1) (kt:=9) (vt:=3) (v:=(z1.length:Int)) (d:=.lit (.int .i64 ((z1.length:Int)))) (by kernel_rfl) (by kernel_rfl) (by kernel_rfl) (by kernel_rfl) (by kernel_rfl) (by kernel_rfl) (by kernel_rfl) (by kernel_rfl) (by kernel_rfl) (Ajm (by kernel_rfl))) <|
 mApp 4 (eOw (eI .i64)) z1 ([[]]) h fun h=>
 mFin 2 h) fun h=>
 mXit 2 [(4,.own (z1.map (eSl (eI .i64))))] (Bc6 (F0:=[(4,.own (z1.map (eOw (eI .i64))))]) (l:=z1) (e:=(eI .i64)) (e':=(eI .i64)) (s:=4) (by kernel_rfl) (by kernel_rfl) (by kernel_rfl) (fun _=>rfl) (by kernel_rfl) (by kernel_rfl)) <|
 Akw 2 h (fun _ h=>h) (fun (r4:(List (List Int)×Bool))=>Aul (l:=r4.1) (e:=(eSl (eI .i64))) rfl (fun _=>rfl)) (hf:=(fun _=>Adr)) fun r4 _ h=>
 mRet 2 h
theorem L2_step (x0:List ByteArray) (z0:List (ByteArray×Int)) (z1:List (List Int)) (z2 z3:Int) (φ:List (List Int)->Prop) (h :
 ∃ a5,lget z1 z3=some a5 /\
 (a5.length+1)*8<=140737488355328 /\
 q30_.L1 x0 z0 ((lset z1 z3 (a5++[z2]))) ((IntKind.wrap .i64 (z2+1))) φ):L2 x0 z0 z1 z2 z3 φ:=
 mIn <|
 mIy 5 (eOw (eI .i64)) h fun a5 h6 h=>
 mLd 0 (eOw (eI .i64)) h6 <|
 h.elim fun h7 h=>
 mOp 2 (app2 (x:=(.tmp 38)) (y:=(.tmp 40)) (t:=84) (u:=84) (et:=3) (z:=.lit (.int .i64 0)) (k:=1) (c:=8) (e:=(eI .i64)) (l:=a5) (m:=[z2]) (by kernel_rfl) (by kernel_rfl) (by kernel_rfl) (by kernel_rfl) (by kernel_rfl) (Bk1 (s:=4) (ps:=[]) (n:=(z3.toNat)) (c:=0) (e:=(eOw (eI .i64))) (l:=z1) (a:=a5) (by kernel_rfl) (by kernel_rfl) (Abg h6).2 (by kernel_rfl) (by kernel_rfl) (Ajm (by kernel_rfl))) (by kernel_rfl) (by kernel_rfl) (by kernel_rfl) (by kernel_rfl) (by kernel_rfl) (fun _=>rfl) h7) <|
 mVl 0 (Ayc (s:=4) (ps:=[]) (cs:=[.undef]) (t:=137) (x:=(.tmp 33)) (ix:=(.tmp 34)) (et:=84) (k:=1) (e:=(eOw (eI .i64))) (l:=z1) (i:=z3) (q:=.i64) (a:=a5) (by kernel_rfl) (by kernel_rfl) (by kernel_rfl) (by kernel_rfl) (by kernel_rfl) (by kernel_rfl) h6 (by kernel_rfl)) <|
 mOp 0 (Blm (t:=84) (x:=(.tmp 42)) (y:=(.tmp 41)) (s:=4) (ps:=[]) (n:=(z3.toNat)) (e:=(eOw (eI .i64))) (l:=z1) (a:=a5) (b:=(a5++[z2])) (k:=1) (cs:=[.undef]) (d:=.own (((a5++[z2])).map (eI .i64))) (by kernel_rfl) (by kernel_rfl) (by kernel_rfl) (by kernel_rfl) (Abg h6).2 (by kernel_rfl) (by kernel_rfl) (by kernel_rfl) (by kernel_rfl) (by kernel_rfl) (Ajm (by kernel_rfl))) <|
 mFin 5 h
theorem enter (x0:List ByteArray) (φ:List (List Int)->Prop) (h :
 q30_.L1 x0 ([]) ([]) 0 φ):∃ r,φ r/\C x0 r:=
 mEnt (fd:=Tryz.f142) (body:=B) (V:=W) (res:=res) <|
 mLen 12 eS x0 <|
 mFin 2 h
end q30_
end Go.Own
namespace Go.Own
theorem q29_.spec {c:List Int}:q29_.C c (decide ((c.length:Int)<2)):=by
 obtain ⟨r,h1,h2⟩:=q29_.enter c (fun r=>r=decide ((c.length:Int)<2)) rfl;rw [← h1];exact h2
namespace q4_
theorem loop {x0:List (List Int)} {φ:Int->Prop} (hn:x0.length<Big):∀ (r:List (List Int)) (k:Nat),x0.drop k=r->φ (Afe r k)->L1 x0 k φ
 | [],k,hd,h=>by
  apply L1_step;have:=Aax hd;rw [if_neg (by omega)];exact h
 | c::r,k,hd,h=>by
  apply L1_step;have hk:=Aay hd;rw [if_pos (by omega)];refine ⟨c,Aar hd,_,q29_.spec,?_⟩;rw [Av3];simp only [Afe] at h
  split
  ·rename_i h1;have:Ae8 c=false:=by simpa using h1
   rw [this] at h;exact h
  ·rename_i h1;have:Ae8 c=true:=by simpa using h1
   rw [this] at h;rw [Aa3 (by unfold Big at hn;omega)];exact loop hn r (k+1) (Aa7 hd) h
theorem spec {x0:List (List Int)} (hn:x0.length<Big):C x0 (Afe x0 0):=by
 obtain ⟨r,h1,h2⟩:=enter x0 (fun r=>r=Afe x0 0) (loop hn x0 0 rfl rfl);rw [← h1];exact h2
end q4_
namespace q3_
theorem loop {x0:List (List Int)} {φ:List (List Int)×Bool->Prop} (hn:x0.length<Big) (hφ:∀ b,φ (x0.filter Ae8,b)):∀ (r:List (List Int)) (k j:Nat) (l:List (List Int)),x0.drop k=r->l.length=x0.length->l.drop k=x0.drop k->l.take j=(x0.take k).filter Ae8->j<=k->k<=x0.length->L1 l j k φ
 | [],k,j,l,hd,hl,h1,h2,h3,h4=>by
  apply L1_step;have hk:=Aax hd;rw [if_neg (by omega)];refine ⟨by omega,⟨by omega,by omega⟩,by omega,by omega,by omega,by omega,⟨by omega,by omega,by omega⟩,?_⟩;rw [Int.toNat_natCast,h2,List.take_of_length_le hk];exact hφ _
 | c::r,k,j,l,hd,hl,h1,h2,h3,h4=>by
  apply L1_step;have hk:=Aay hd;rw [if_pos (by omega)];have hlk:l.drop k=c::r:=by rw [h1,hd]
  refine ⟨c,Aar hlk,_,q29_.spec,?_⟩;rw [Av3];have htk:x0.take (k+1)=x0.take k++[c]:=by rw [List.take_add_one,Aaj hd];rfl
  split
  ·rename_i hc;have hc:Ae8 c=false:=by simpa using hc
   apply L2_step;rw [Aa3 (by unfold Big at hn;omega)];refine loop hn hφ r (k+1) j l (Aa7 hd) hl ?_ ?_ (by omega) (by omega)
   ·rw [Aa7 hlk,Aa7 hd]
   ·rw [htk,List.filter_append,h2];simp [hc]
  ·rename_i hc;have hc:Ae8 c=true:=by simpa using hc
   obtain ⟨a,ha⟩:=Afx (l:=l) (i:=(j:Int)) (by omega) (by omega);refine ⟨a,ha,?_⟩;apply L2_step;rw [Aa3 (by unfold Big at hn;omega),Aa3 (by unfold Big at hn;omega)];have hs:lset l (j:Int) c=l.set j c:=by simp [lset]
   rw [hs];refine loop hn hφ r (k+1) (j+1) (l.set j c) (Aa7 hd) (by simp [hl]) ?_ ?_ (by omega) (by omega)
   ·rw [List.drop_set_of_lt (by omega),Aa7 hlk,Aa7 hd]
   ·rw [htk,List.filter_append,← h2,List.take_add_one];have e1:(l.set j c)[j]? = some c:=by rw [List.getElem?_set_self (by omega)]
    rw [e1,List.take_set_of_le (by omega)];simp [hc]
theorem spec {x0:List (List Int)} (hn:x0.length<Big):∃ b,C x0 (x0.filter Ae8,b):=by
 obtain ⟨r,h1,h2⟩:=enter x0 (fun r=>r.1=x0.filter Ae8) (by
  refine ⟨_,q4_.spec hn,?_⟩;rcases Anl (l:=x0) (k:=0) with ⟨h1,h2⟩ | ⟨n,h1,h2,h3,c,h4,h5⟩
  ·rw [if_pos h1];exact (List.filter_eq_self.2 h2).symm
  ·rw [if_neg (by omega),h1,Nat.zero_add,Aa3 (by unfold Big at hn;omega)];refine loop (φ:=fun r=>r.1=x0.filter Ae8) hn (fun b=>rfl) _ (n+1) n x0 rfl rfl rfl ?_ (by omega) (by omega);have htk:x0.take (n+1)=x0.take n++[c]:=by rw [List.take_add_one,h4];rfl
   rw [htk,List.filter_append,List.filter_eq_self.2 h3];simp [h5])
 obtain ⟨l,b⟩:=r;simp only at h1;subst h1;exact ⟨b,h2⟩
end q3_
namespace q30_
theorem loop {x0:List ByteArray} {φ:List (List Int)->Prop} (hn:x0.length<=10000) (hφ:φ (grpF x0)):∀ (r:List ByteArray) (k:Nat) (m:List (ByteArray×Int)),x0.drop k=r->ixOf m (fsts (x0.take k))->L1 x0 m ((fsts (x0.take k)).map (cls (x0.take k))) k φ
 | [],k,m,hd,hm=>by
  apply L1_step;have hk:=Aax hd;rw [if_neg (by omega),List.take_of_length_le hk];have hlen:((fsts x0).map (cls x0)).length<Big:=by
   rw [List.length_map];have:∀ l:List ByteArray,(fsts l).length<=l.length:=by
    intro l;refine Agd (p:=fun l=>(fsts l).length<=l.length) (by simp [fsts]) (fun l b ih=>?_) l;rw [Acy]
    split
    ·simp;omega
    ·simp;omega
   have:=this x0;unfold Big;omega
  obtain ⟨b,hb⟩:=q3_.spec hlen;exact ⟨_,hb,hφ⟩
 | a::r,k,m,hd,hm=>by
  apply L1_step;have hk:=Aay hd;rw [if_pos (by omega)];refine ⟨a,Aar hd,?_⟩;have htk:x0.take (k+1)=x0.take k++[a]:=by rw [List.take_add_one,Aaj hd];rfl
  have hlen:(x0.take k).length=k:=by rw [List.length_take];omega
  have hle:(fsts (x0.take k)).length<=10000:=by
   have:∀ l:List ByteArray,(fsts l).length<=l.length:=by
    intro l;refine Agd (p:=fun l=>(fsts l).length<=l.length) (by simp [fsts]) (fun l b ih=>?_) l;rw [Acy]
    split
    ·simp;omega
    ·simp;omega
   have:=this (x0.take k);omega
  have hcl:∀ b,(cls (x0.take k) b).length<=10000:=fun b=>by
   unfold cls;rw [List.length_map];exact Nat.le_trans (List.length_filter_le _ _) (by simp;omega)
  by_cases ha:a∈fsts (x0.take k)
  ·have hg:mget a m=some ((ixn (fsts (x0.take k)) a:Nat):Int):=by rw [hm a,if_pos ha]
   rw [if_pos (by simp [mhas,hg])];apply L2_step;have hi:ixn (fsts (x0.take k)) a<(fsts (x0.take k)).length:=Bdm ha;have hgd:Ac1 a m 0=((ixn (fsts (x0.take k)) a:Nat):Int):=by simp [Ac1,hg]
   rw [hgd];refine ⟨cls (x0.take k) a,?_,by have:=hcl a;omega,?_⟩
   ·rw [Ab4,List.getElem?_map,Atv ha];rfl
   ·rw [Aa3 (by omega)];have ih:=loop hn hφ r (k+1) m (Aa7 hd) (by rw [htk,Acy,if_pos ha];exact hm);rw [htk,Acy,if_pos ha] at ih;have e:(fsts (x0.take k)).map (cls (x0.take k++[a]))=lset ((fsts (x0.take k)).map (cls (x0.take k))) ((ixn (fsts (x0.take k)) a:Nat):Int) (cls (x0.take k) a++[(k:Int)]):=by
     unfold lset;rw [Int.toNat_natCast];apply List.ext_getElem?;intro q;rw [List.getElem?_map,List.getElem?_set,List.getElem?_map,List.length_map];by_cases hq:ixn (fsts (x0.take k)) a=q
     ·subst hq;rw [if_pos rfl,if_pos hi,Atv ha];simp [Amk,hlen]
     ·rw [if_neg hq];cases hv:(fsts (x0.take k))[q]? with
      | none=>rfl
      | some b=>
       simp only [Option.map_some,zJ];rw [Amk,if_neg];rintro rfl;exact hq (Axi Bb4 hv)
    rw [e] at ih;exact ih
  ·have hg:mget a m=none:=by rw [hm a,if_neg ha]
   rw [if_neg (by simp [mhas,hg])];have hal:a ∉ x0.take k:=fun h=>ha (Ai1.2 h);refine ⟨by rw [List.length_map];omega,?_⟩;apply L2_step;refine ⟨[],?_,by simp,?_⟩
   ·rw [Ab4,List.getElem?_append_right (Nat.le_refl _)];simp
   ·rw [Aa3 (by omega),List.length_map];have ih:=loop hn hφ r (k+1) (mset a ((fsts (x0.take k)).length:Int) m) (Aa7 hd) (by
     rw [htk,Acy,if_neg ha];intro b;rw [Aom];by_cases hab:a=b
     ·subst hab;rw [if_pos rfl,if_pos (by simp),Axf ha]
     ·rw [if_neg hab,hm b];have:b∈fsts (x0.take k)++[a]↔b∈fsts (x0.take k):=by simp [Ne.symm hab]
      by_cases hb:b∈fsts (x0.take k)
      ·rw [if_pos hb,if_pos (this.2 hb),Bdl hb]
      ·rw [if_neg hb,if_neg (fun h=>hb (this.1 h))])
    rw [htk,Acy,if_neg ha] at ih;have e:(fsts (x0.take k)++[a]).map (cls (x0.take k++[a]))=lset ((fsts (x0.take k)).map (cls (x0.take k))++[[]]) ((fsts (x0.take k)).length:Int) ([]++[(k:Int)]):=by
     unfold lset;rw [Int.toNat_natCast,List.set_append_right _ _ (by simp),List.length_map,Nat.sub_self,List.set_cons_zero,List.map_append];congr 1
     ·refine List.map_congr_left fun b hb=>?_;rw [Amk,if_neg];rintro rfl;exact ha hb
     ·simp [Amk,Bh7 hal,hlen]
    rw [e] at ih;exact ih
theorem spec {x0:List ByteArray} (hn:x0.length<=10000):C x0 (grpF x0):=by
 obtain ⟨r,h1,h2⟩:=enter x0 (fun r=>r=grpF x0) (by
  have:=loop (φ:=fun r=>r=grpF x0) hn rfl x0 0 [] rfl (by intro a;simp [mget,fsts]);simpa [fsts] using this)
 rw [← h1];exact h2
end q30_
section
variable {α β:Type} [DecidableEq α] [DecidableEq β]
structure Alike (l:List α) (m:List β):Prop where
 len:l.length=m.length
 iff:∀ i j:Nat,i<l.length->j<l.length->(l[i]? = l[j]?↔m[i]? = m[j]?)
theorem Bd1 {l:List α} {m:List β} (h:Alike l m) {k:Nat} {a:α} {b:β} (ha:l[k]? = some a) (hb:m[k]? = some b):cls l a=cls m b:=by
 unfold cls;rw [h.len];congr 1;refine List.filter_congr fun i hi=>?_;have hk:=(List.getElem?_eq_some_iff.1 ha).1;have:=h.iff i k (by rw [h.len];simpa using hi) hk;rw [ha,hb] at this;rw [decide_eq_decide];exact this
theorem Ak2 {l:List α} {k:Nat} {a:α}:a∈l.take k↔∃ j,j<k/\l[j]? = some a:=by
 rw [List.mem_iff_getElem?];constructor
 ·rintro ⟨j,hj⟩;rw [List.getElem?_take] at hj
  split at hj
  ·rename_i h;exact ⟨j,h,hj⟩
  ·cases hj
 ·rintro ⟨j,h1,h2⟩;exact ⟨j,by rw [List.getElem?_take_of_lt h1];exact h2⟩
theorem Aey {l:List α} {k:Nat} {a:α} (h:l[k]? = some a):l.take (k+1)=l.take k++[a]:=by rw [List.take_add_one,h];rfl
theorem Avc {l:List α} {m:List β} (h:Alike l m):∀ k,k<=l.length->(fsts (l.take k)).map (cls l)=(fsts (m.take k)).map (cls m)
 | 0,_=>by simp [fsts]
 | k+1,hk=>by
  have ih:=Avc h k (by omega);have hl:=List.getElem?_eq_getElem (l:=l) (i:=k) (by omega);have hm:=List.getElem?_eq_getElem (l:=m) (i:=k) (by rw [← h.len];omega);rw [Aey hl,Aey hm,Acy,Acy];have e:l[k]∈fsts (l.take k)↔m[k]'(by rw [← h.len];omega)∈fsts (m.take k):=by
   rw [Ai1,Ai1,Ak2,Ak2];constructor
   ·rintro ⟨j,h1,h2⟩;refine ⟨j,h1,?_⟩;rw [← hm,← h.iff j k (by omega) (by omega),h2,hl]
   ·rintro ⟨j,h1,h2⟩;refine ⟨j,h1,?_⟩;rw [← hl,h.iff j k (by omega) (by omega),h2,hm]
  by_cases hin:l[k]∈fsts (l.take k)
  ·rw [if_pos hin,if_pos (e.1 hin)];exact ih
  ·rw [if_neg hin,if_neg (fun hh=>hin (e.2 hh)),List.map_append,List.map_append,ih];simp only [List.map_cons,List.map_nil,Bd1 h hl hm]
theorem Bb6 {l:List α} {m:List β} (h:Alike l m):grpF l=grpF m:=by
 have:=Avc h l.length (Nat.le_refl _);rw [List.take_length,h.len,List.take_length] at this;unfold grpF;rw [this]
theorem Arq {l:List α} {a:α}:(cls l a).Pairwise (·<·):=by
 unfold cls;rw [List.pairwise_map];refine List.Pairwise.imp ?_ (List.pairwise_lt_range.filter _);intro i j h;omega
theorem Bhf {c:List Int} (h:c.Pairwise (·<·)) {i:Int} (hi:i∈c):c.headD 0<=i:=by
 match c,h,hi with
 | a::t,h,hi=>
  simp only [List.headD_cons];rcases List.mem_cons.1 hi with rfl | hi
  ·omega
  ·have:=(List.pairwise_cons.1 h).1 i hi;omega
theorem Bfh {c:List Int} (h:c≠[]):c.headD 0∈c:=by
 match c,h with
 | a::t,_=>simp
theorem Bkb {l:List α} {a:α} (h:a∈l):cls l a≠[]:=by
 obtain ⟨k,hk⟩:=List.mem_iff_getElem?.1 h;intro hn;have:((k:Nat):Int)∈cls l a:=Af1.2 (by rw [Ab4];exact hk);rw [hn] at this;cases this
theorem Auz {l:List α}:∀ k,k<=l.length->((fsts (l.take k)).map (cls l)).Pairwise (fun c d=>c.headD 0<d.headD 0/\∀ i∈c,i ∉ d)/\∀ a∈fsts (l.take k),(cls l a).headD 0<(k:Int)
 | 0,_=>by simp [fsts]
 | k+1,hk=>by
  obtain ⟨i1,i2⟩:=Auz (l:=l) k (by omega);obtain ⟨x,hl⟩:∃ x,l[k]? = some x:=⟨_,List.getElem?_eq_getElem (by omega)⟩
  rw [Aey hl,Acy]
  split
  ·exact ⟨i1,fun a ha=>by have:=i2 a ha;omega⟩
  ·rename_i hin;have hne:=Bkb (List.mem_of_getElem? hl);have hkm:((k:Nat):Int)∈cls l x:=Af1.2 (by rw [Ab4];exact hl);have hhead:(cls l x).headD 0=(k:Int):=by
    have h1:=Bhf Arq hkm;have h2:=Af1.1 (Bfh hne);obtain ⟨h3,h4⟩:=Abg h2;rcases Int.lt_or_le ((cls l x).headD 0) (k:Int) with h5 | h5
    ·exfalso;apply hin;rw [Ai1,Ak2];exact ⟨_,by omega,h4⟩
    ·omega
   refine ⟨?_,?_⟩
   ·rw [List.map_append,List.pairwise_append];refine ⟨i1,by simp,fun c hc d hd=>?_⟩;simp only [List.map_cons,List.map_nil,List.mem_singleton] at hd;subst hd;obtain ⟨b,hb,rfl⟩:=List.mem_map.1 hc;refine ⟨by rw [hhead];exact i2 b hb,fun i hi hi2=>?_⟩;have e:=(Af1.1 hi).symm.trans (Af1.1 hi2);rw [Option.some.inj e] at hb;exact hin hb
   ·intro a ha;rcases List.mem_append.1 ha with ha | ha
    ·have:=i2 a ha;omega
    ·simp only [List.mem_singleton] at ha;subst ha;rw [hhead];omega
def part (l:List α):api_Partition:=⟨l.length,grpF l⟩
theorem Ak1 {l:List α} {c:List Int}:c∈grpF l↔∃ a∈l,c=cls l a/\2<=c.length:=by
 unfold grpF;simp only [List.mem_filter,List.mem_map,decide_eq_true_eq];constructor
 ·rintro ⟨⟨a,h1,rfl⟩,h2⟩;exact ⟨a,Ai1.1 h1,rfl,h2⟩
 ·rintro ⟨a,h1,rfl,h2⟩;exact ⟨⟨a,Ai1.2 h1,rfl⟩,h2⟩
theorem Bju {l:List α}:CP (l.length:Int) (grpF l):=by
 have hp:=(Auz (l:=l) l.length (Nat.le_refl _)).1;rw [List.take_length] at hp;have hp':(grpF l).Pairwise (fun c d=>c.headD 0<d.headD 0/\∀ i∈c,i ∉ d):=hp.filter _;refine ⟨fun c hc=>?_,fun c hc=>?_,fun c hc i hi=>?_,hp'.imp fun h=>h.1,hp'.imp fun h=>h.2⟩
 ·obtain ⟨a,_,_,h⟩:=Ak1.1 hc;exact h
 ·obtain ⟨a,_,rfl,_⟩:=Ak1.1 hc;exact Arq
 ·obtain ⟨a,_,rfl,_⟩:=Ak1.1 hc;obtain ⟨h1,h2⟩:=Abg (Af1.1 hi);have:=(List.getElem?_eq_some_iff.1 h2).1;omega
theorem Amz {l:List α} (h:l.length<=1000):Acl (part l)=true:=Afq.2 ⟨by simp [part],by simp only [part];omega,Bju⟩
theorem Be1 {l:List α} {i j:Int} (hi:0<=i/\i<l.length) (hj:0<=j/\j<l.length):Same (part l) i j↔lget l i=lget l j:=by
 constructor
 ·rintro (rfl | ⟨c,hc,h1,h2⟩)
  ·rfl
  ·obtain ⟨a,_,rfl,_⟩:=Ak1.1 hc;rw [Af1.1 h1,Af1.1 h2]
 ·intro h;by_cases hij:i=j
  ·exact .inl hij
  ·obtain ⟨a,ha⟩:=Afx (l:=l) hi.1 hi.2;have h1:i∈cls l a:=Af1.2 ha;have h2:j∈cls l a:=Af1.2 (h ▸ ha);refine .inr ⟨cls l a,Ak1.2 ⟨a,?_,rfl,?_⟩,h1,h2⟩
   ·exact List.mem_of_getElem? (Abg ha).2
   ·match hc:cls l a,h1,h2 with
    | [x],h1,h2=>simp at h1 h2;exact absurd (h1.trans h2.symm) hij
    | _::_::_,_,_=>simp
theorem Bbl {l:List α} (h:l.length<=1000):Aib (part l):=by
 obtain ⟨h1,h2⟩:=Bm5 (Amz h);exact ⟨by unfold Big;omega,fun c hc=>by have:=h2 c hc;unfold Big;omega⟩
end
theorem Bel {α β:Type} [DecidableEq α] [DecidableEq β] {l:List α} {m:List β} (hl:l.length=m.length) (h:∀ i j:Nat,i<l.length->j<l.length->(l[i]? = l[j]?↔m[i]? = m[j]?)):part l=part m:=by
 unfold part;rw [Bb6 (l:=l) (m:=m) ⟨hl,h⟩,hl]
section
variable {α:Type} [DecidableEq α]
end
end Go.Own
namespace Go.Own
open Go.Proofs D
set_option maxRecDepth 100000
set_option maxHeartbeats 4000000
namespace q84_
noncomputable def B:Code:=(Tryz.f66.body).getD .skip
def W:List Nat:=[0,1,2,4,5,6,7,8,9,11,12,13,21,22,23,24,28,29,30,31]
def res (r:api_Partition):D×List D:=(.agg [.lit (.int .i64 r.Rows),.sl (r.Classes.map (eSl (eI .i64)))],[])
def C (x0:api_Table) (x1:Int) (r:api_Partition):Prop:=Ret env 66 [.agg [.lit (.string x0.Name),.sl (x0.Attrs.map eS),.sl (x0.Rows.map Aa2)],.lit (.int .u32 x1)] (res r).1 (res r).2
def L1 (x0:api_Table) (r1:List Int) (z0:List ByteArray) (z1:Int) (φ:api_Partition->Prop):Prop:=Pt env 66 W B [1,1,1,0,1,0] [(0,.agg [.lit (.string x0.Name),.sl (x0.Attrs.map eS),.sl (x0.Rows.map Aa2)]),(2,.box [.lit (.string x0.Name),.sl (x0.Attrs.map eS),.sl (x0.Rows.map Aa2)]),(4,.box [.lit (.int .i64 0),.own []]),(5,.own (r1.map (eI .i64))),(6,.own (z0.map eS)),(21,.sl (x0.Rows.map Aa2)),(22,.lit (.int .i64 ((x0.Rows.length:Int)))),(23,.lit (.int .i64 z1))] (Lv env 66 Tryz.f66 2 res φ)
def L2 (x0:api_Table) (r1:List Int) (z0:List ByteArray) (z1:Int) (a3:api_Row) (z2:List UInt8) (z3 z4:Int) (φ:api_Partition->Prop):Prop:=Pt env 66 W B [1,1,1,0,1,0,0,1,1,0,0,1,1,0,1,0] [(0,.agg [.lit (.string x0.Name),.sl (x0.Attrs.map eS),.sl (x0.Rows.map Aa2)]),(2,.box [.lit (.string x0.Name),.sl (x0.Attrs.map eS),.sl (x0.Rows.map Aa2)]),(4,.box [.lit (.int .i64 0),.own []]),(5,.own (r1.map (eI .i64))),(6,.own (z0.map eS)),(7,.lit (.int .i64 z1)),(8,.box [.lit (.int .i64 a3.ID),.sl (a3.Values.map Aa5)]),(9,.bld 232 5 z2),(21,.sl (x0.Rows.map Aa2)),(22,.lit (.int .i64 ((x0.Rows.length:Int)))),(23,.lit (.int .i64 z3)),(28,.alias 5 []),(29,.lit (.int .i64 ((r1.length:Int)))),(30,.lit (.int .i64 z4))] (Lv env 66 Tryz.f66 2 res φ)
theorem L1_step (x0:api_Table) (r1:List Int) (z0:List ByteArray) (z1:Int) (φ:api_Partition->Prop) (h :
 (if z1<(x0.Rows.length:Int) then
 ∃ a3,lget x0.Rows z1=some a3 /\
 q84_.L2 x0 r1 z0 z1 a3 ([]) z1 0 φ
 else
 ∃ r5:List (List Int),q30_.C z0 r5 /\
 φ ((⟨(x0.Rows.length:Int),r5⟩:api_Partition)))):L1 x0 r1 z0 z1 φ:=
 mIn <|
 mAsk 2 h dT dF (fun h=>
 mIx 5 Aa2 h fun a3 h4 h=>
 mLen 10 (eI .i64) r1 <|
 mFin 2 h) fun h=>
 mXit 2 [(0,.agg [.lit (.string x0.Name),.sl (x0.Attrs.map eS),.sl (x0.Rows.map Aa2)]),(2,.box [.lit (.string x0.Name),.sl (x0.Attrs.map eS),.sl (x0.Rows.map Aa2)]),(4,.box [.lit (.int .i64 0),.own []]),(6,.sl (z0.map eS))] (Aln (F0:=[(0,.agg [.lit (.string x0.Name),.sl (x0.Attrs.map eS),.sl (x0.Rows.map Aa2)]),(2,.box [.lit (.string x0.Name),.sl (x0.Attrs.map eS),.sl (x0.Rows.map Aa2)]),(4,.box [.lit (.int .i64 0),.own []]),(6,.own (z0.map eS))]) (l:=z0) (e:=eS) (e':=eS) (s:=6) (by kernel_rfl) (by kernel_rfl) (by kernel_rfl) (fun _=>rfl) (by kernel_rfl) (by kernel_rfl)) <|
 mLen 3 Aa2 x0.Rows <|
 mLo 1 h (fun _ h=>h) (hf:=(fun _=>Ba0)) fun r5 _ h=>
 mRet 3 h
theorem L2_step (x0:api_Table) (r1:List Int) (z0:List ByteArray) (z1:Int) (a3:api_Row) (z2:List UInt8) (z3 z4:Int) (φ:api_Partition->Prop) (h :
 (if z4<(r1.length:Int) then
 ∃ a6,lget r1 z4=some a6 /\
 ∃ a8,lget a3.Values a6=some a8 /\
 ∃ r10:ByteArray×Int,q93_.C a8 r10 /\
 z2.length+r10.1.size<=140737488355328 /\
 q84_.L2 x0 r1 z0 z1 a3 ((z2++r10.1.data.toList)) z3 ((IntKind.wrap .i64 (z4+1))) φ
 else
 ∃ a12,lget z0 z1=some a12 /\
 q84_.L1 x0 r1 ((lset z0 z1 (bstr z2))) ((IntKind.wrap .i64 (z3+1))) φ)):L2 x0 r1 z0 z1 a3 z2 z3 z4 φ:=
 mIn <|
 mAsk 2 h dT dF (fun h=>
 mIy 4 (eI .i64) h fun a6 h7 h=>
 mLd 0 (eI .i64) h7 <|
 mIx 6 Aa5 h fun a8 h9 h=>
 mCal 1 h (fun _ h=>h) (hf:=(fun _=>Aai (Aaz (Aa4 rfl (Aa4 rfl Aao))) rfl)) fun r10 _ h=>
 h.elim fun h11 h=>
 Asl 8 (show Ret env 140 [.bld 232 5 z2,.lit (.string r10.1)] (.tup [.lit (.int .i64 ((Aga r10.1))),.lit .nilIface]) [.bld 232 5 ((z2++r10.1.data.toList))] from Be6 (by kernel_rfl) h11) <|
 mFin 5 h) fun h=>
 Asl 6 (show Ret env 141 [.bld 232 5 z2] (.lit (.string ((bstr z2)))) [.box [.undef,.undef]] from Bbt (by kernel_rfl)) <|
 mIy 0 eS h fun a12 h13 h=>
 mSto 0 eS ((bstr z2)) h13 <|
 mFin 5 h
theorem enter (x0:api_Table) (x1:Int) (φ:api_Partition->Prop) (h :
 ∃ r1:List Int,q58_.C x1 r1 /\
 (0<=(x0.Rows.length:Int)/\(x0.Rows.length:Int)*16<=281474976710656) /\
 q84_.L1 x0 r1 ((List.replicate x0.Rows.length (⟨#[]⟩:ByteArray))) 0 φ):∃ r,φ r/\C x0 x1 r:=
 mEnt (fd:=Tryz.f66) (body:=B) (V:=W) (res:=res) <|
 mCal 6 h (fun _ h=>h) (hf:=(fun _=>Aai (Aae (e:=(eI .i64)) (fun _=>rfl)) rfl)) fun r1 _ h=>
 mLen 5 Aa2 x0.Rows <|
 h.elim fun h2 h=>
 mVl 0 (Ane (t:=44) (x:=(.tmp 18)) (y:=(.tmp 18)) (q:=.i64) (i:=(x0.Rows.length:Int)) (et:=9) (z:=.lit (.string ((⟨#[]⟩:ByteArray)))) (e:=eS) (a:=(⟨#[]⟩:ByteArray)) (k:=16) (by kernel_rfl) (by kernel_rfl) (by kernel_rfl) (by kernel_rfl) (by kernel_rfl) (by kernel_rfl) (by kernel_rfl) (by kernel_rfl) (by kernel_rfl) (by kernel_rfl) h2.1 h2.2) <|
 mLen 5 Aa2 x0.Rows <|
 mFin 2 h
end q84_
namespace q48_
noncomputable def B:Code:=(Tryz.f64.body).getD .skip
def W:List Nat:=[0,1,2,4]
def res (r:Bool):D×List D:=(.lit (.bool r),[])
def C (x0:api_Table) (x1:Int) (r:Bool):Prop:=Ret env 64 [.agg [.lit (.string x0.Name),.sl (x0.Attrs.map eS),.sl (x0.Rows.map Aa2)],.lit (.int .u32 x1)] (res r).1 (res r).2
theorem enter (x0:api_Table) (x1:Int) (φ:Bool->Prop) (h :
 0<=(x0.Attrs.length:Int) /\
 φ (((shrw .u64 (IntKind.wrap .u64 x1) (x0.Attrs.length:Int)) == 0))):∃ r,φ r/\C x0 x1 r:=
 mEnt (fd:=Tryz.f64) (body:=B) (V:=W) (res:=res) <|
 mLen 9 eS x0.Attrs <|
 h.elim fun h1 h=>
 mBi 0 (Ape (t:=224) (q:=.u64) (q':=.i64) (i1:=(IntKind.wrap .u64 x1)) h1) <|
 mRet 3 h
end q48_
namespace q34_
noncomputable def B:Code:=(Tryz.f138.body).getD .skip
def W:List Nat:=[0,1,2,4]
def res (r:Bool):D×List D:=(.lit (.bool r),[])
def C (x0:Int) (k1_0 k2_0:List Int) (r:Bool):Prop:=Ret env 138 [.lit (.int .i64 x0),.ref [.sl (k1_0.map (eI .i64))],.ref [.sl (k2_0.map (eI .i64))]] (res r).1 (res r).2
theorem enter (x0:Int) (k1_0 k2_0:List Int) (φ:Bool->Prop) (h :
 ∃ a1,lget k1_0 x0=some a1 /\
 ∃ a3,lget k2_0 0=some a3 /\
 ∃ a5,lget k1_0 a3=some a5 /\
 φ ((a1 != a5))):∃ r,φ r/\C x0 k1_0 k2_0 r:=
 mEnt (fd:=Tryz.f138) (body:=B) (V:=W) (res:=res) <|
 mIx 6 (eI .i64) h fun a1 h2 h=>
 mIx 3 (eI .i64) h fun a3 h4 h=>
 mIx 1 (eI .i64) h fun a5 h6 h=>
 mRet 4 h
end q34_
namespace q16_
noncomputable def B:Code:=(Tryz.f187.body).getD .skip
def W:List Nat:=[0,1,4,5,7,8,9,16]
def res (r:Int):D×List D:=(.lit (.int .i64 r),[])
def C (x0 k1_0 k1_1:List Int) (r:Int):Prop:=Ret env 187 [.sl (x0.map (eI .i64)),.fn 138 [.ref [.sl (k1_0.map (eI .i64))],.ref [.sl (k1_1.map (eI .i64))]]] (res r).1 (res r).2
def L1 (x0 k1_0 k1_1:List Int) (z0:Int) (φ:Int->Prop):Prop:=Pt env 187 W B [1,0,1,0] [(0,.sl (x0.map (eI .i64))),(1,.fn 138 [.ref [.sl (k1_0.map (eI .i64))],.ref [.sl (k1_1.map (eI .i64))]]),(7,.lit (.int .i64 ((x0.length:Int)))),(8,.lit (.int .i64 z0))] (Lv env 187 Tryz.f187 2 res φ)
theorem L1_step (x0 k1_0 k1_1:List Int) (z0:Int) (φ:Int->Prop) (h :
 (if z0<(x0.length:Int) then
 ∃ a1,lget x0 z0=some a1 /\
 ∃ r3:Bool,q34_.C a1 k1_0 k1_1 r3 /\
 (if r3=true then
 φ z0
 else
 q16_.L1 x0 k1_0 k1_1 ((IntKind.wrap .i64 (z0+1))) φ)
 else
 φ ((-1)))):L1 x0 k1_0 k1_1 z0 φ:=
 mIn <|
 mAsk 2 h dT dF (fun h=>
 mIx 11 (eI .i64) h fun a1 h2 h=>
 Adi 1 h (fun _ h=>h) (fun _ h=>
 mRet 6 h) fun _ h=>
 mFin 7 h) fun h=>
 mRet 6 h
theorem enter (x0 k1_0 k1_1:List Int) (φ:Int->Prop) (h :
 q16_.L1 x0 k1_0 k1_1 0 φ):∃ r,φ r/\C x0 k1_0 k1_1 r:=
 mEnt (fd:=Tryz.f187) (body:=B) (V:=W) (res:=res) <|
 mLen 5 (eI .i64) x0 <|
 mFin 2 h
end q16_
namespace q10_
noncomputable def B:Code:=(Tryz.f137.body).getD .skip
def W:List Nat:=[0,1,4]
def res (r:Bool):D×List D:=(.lit (.bool r),[])
def C (x0 k1_0 k1_1:List Int) (r:Bool):Prop:=Ret env 137 [.sl (x0.map (eI .i64)),.fn 138 [.ref [.sl (k1_0.map (eI .i64))],.ref [.sl (k1_1.map (eI .i64))]]] (res r).1 (res r).2
theorem enter (x0 k1_0 k1_1:List Int) (φ:Bool->Prop) (h :
 ∃ r1:Int,q16_.C x0 k1_0 k1_1 r1 /\
 φ ((decide (0<=r1)))):∃ r,φ r/\C x0 k1_0 k1_1 r:=
 mEnt (fd:=Tryz.f137) (body:=B) (V:=W) (res:=res) <|
 mCal 6 h (fun _ h=>h) fun r1 _ h=>
 mRet 3 h
end q10_
namespace q39_
noncomputable def B:Code:=(Tryz.f136.body).getD .skip
def W:List Nat:=[0,1,2,3]
def res (r:Bool):D×List D:=(.lit (.bool r),[])
def C (x0 k1_0:List Int) (r:Bool):Prop:=Ret env 136 [.sl (x0.map (eI .i64)),.ref [.sl (k1_0.map (eI .i64))]] (res r).1 (res r).2
theorem enter (x0 k1_0:List Int) (φ:Bool->Prop) (h :
 ∃ r1:Bool,q10_.C x0 k1_0 x0 r1 /\
 φ r1):∃ r,φ r/\C x0 k1_0 r:=
 mEnt (fd:=Tryz.f136) (body:=B) (V:=W) (res:=res) <|
 mCal 7 h (fun _ h=>h) fun r1 _ h=>
 mRet 2 h
end q39_
namespace q17_
noncomputable def B:Code:=(Tryz.f186.body).getD .skip
def W:List Nat:=[0,1,4,5,7,8,9,16]
def res (r:Int):D×List D:=(.lit (.int .i64 r),[])
def C (x0:List (List Int)) (k1_0:List Int) (r:Int):Prop:=Ret env 186 [.sl (x0.map (eSl (eI .i64))),.fn 136 [.ref [.sl (k1_0.map (eI .i64))]]] (res r).1 (res r).2
def L1 (x0:List (List Int)) (k1_0:List Int) (z0:Int) (φ:Int->Prop):Prop:=Pt env 186 W B [1,0,1,0] [(0,.sl (x0.map (eSl (eI .i64)))),(1,.fn 136 [.ref [.sl (k1_0.map (eI .i64))]]),(7,.lit (.int .i64 ((x0.length:Int)))),(8,.lit (.int .i64 z0))] (Lv env 186 Tryz.f186 2 res φ)
theorem L1_step (x0:List (List Int)) (k1_0:List Int) (z0:Int) (φ:Int->Prop) (h :
 (if z0<(x0.length:Int) then
 ∃ a1,lget x0 z0=some a1 /\
 ∃ r3:Bool,q39_.C a1 k1_0 r3 /\
 (if r3=true then
 φ z0
 else
 q17_.L1 x0 k1_0 ((IntKind.wrap .i64 (z0+1))) φ)
 else
 φ ((-1)))):L1 x0 k1_0 z0 φ:=
 mIn <|
 mAsk 2 h dT dF (fun h=>
 mIx 11 (eSl (eI .i64)) h fun a1 h2 h=>
 Adi 1 h (fun _ h=>h) (fun _ h=>
 mRet 6 h) fun _ h=>
 mFin 7 h) fun h=>
 mRet 6 h
theorem enter (x0:List (List Int)) (k1_0:List Int) (φ:Int->Prop) (h :
 q17_.L1 x0 k1_0 0 φ):∃ r,φ r/\C x0 k1_0 r:=
 mEnt (fd:=Tryz.f186) (body:=B) (V:=W) (res:=res) <|
 mLen 5 (eSl (eI .i64)) x0 <|
 mFin 2 h
end q17_
namespace q11_
noncomputable def B:Code:=(Tryz.f135.body).getD .skip
def W:List Nat:=[0,1,4]
def res (r:Bool):D×List D:=(.lit (.bool r),[])
def C (x0:List (List Int)) (k1_0:List Int) (r:Bool):Prop:=Ret env 135 [.sl (x0.map (eSl (eI .i64))),.fn 136 [.ref [.sl (k1_0.map (eI .i64))]]] (res r).1 (res r).2
theorem enter (x0:List (List Int)) (k1_0:List Int) (φ:Bool->Prop) (h :
 ∃ r1:Int,q17_.C x0 k1_0 r1 /\
 φ ((decide (0<=r1)))):∃ r,φ r/\C x0 k1_0 r:=
 mEnt (fd:=Tryz.f135) (body:=B) (V:=W) (res:=res) <|
 mCal 6 h (fun _ h=>h) fun r1 _ h=>
 mRet 3 h
end q11_
namespace q44_
noncomputable def B:Code:=(Tryz.f65.body).getD .skip
def W:List Nat:=[0,1,2,3,4,5,9]
def res (r:Bool):D×List D:=(.lit (.bool r),[])
def C (x0 x1:api_Partition) (r:Bool):Prop:=Ret env 65 [.agg [.lit (.int .i64 x0.Rows),.sl (x0.Classes.map (eSl (eI .i64)))],.agg [.lit (.int .i64 x1.Rows),.sl (x1.Classes.map (eSl (eI .i64)))]] (res r).1 (res r).2
theorem enter (x0 x1:api_Partition) (φ:Bool->Prop) (h :
 ∃ r1:Int,q70_.C x0 x1 r1 /\
 (if r1=0 then
 ∃ r2:List Int,q46_.C x1 r2 /\
 ∃ r3:Bool,q11_.C x0.Classes r2 r3 /\
 φ ((not r3))
 else
 φ false)):∃ r,φ r/\C x0 x1 r:=
 mEnt (fd:=Tryz.f65) (body:=B) (V:=W) (res:=res) <|
 mCal 8 h (fun _ h=>h) fun r1 _ h=>
 Ab7 0 h Ab6 Ab5 (fun h=>
 mRet 5 h) fun h=>
 mCal 5 h (fun _ h=>h) (hf:=(fun _=>Aai (Aae (e:=(eI .i64)) (fun _=>rfl)) rfl)) fun r2 _ h=>
 mCal 7 h (fun _ h=>h) (hr:=by exact (pr_k (Acp (Bjz (Bbz (Bgc (s:=5) (ps:=[]) (by kernel_rfl) (Ac3 (Abw (e:=(eI .i64)) (e':=(eI .i64)) (fun _=>rfl) r2) Agn)) Bea)) Ae0))) fun r3 _ h=>
 mRet 3 h
end q44_
end Go.Own
namespace Go.Own
theorem Bf2 {a b:api_Partition} (h:Akn a b=0):Acl a=true/\Acl b=true/\a.Rows=b.Rows:=by
 unfold Akn at h
 split at h
 ·split at h
  ·split at h
   ·exact ⟨by assumption,by assumption,by assumption⟩
   ·omega
  ·omega
 ·omega
def Bad1 (l c:List Int) (i:Int):Prop:=lab1 l i≠lab1 l (c.headD 0)
structure In1 (l c:List Int):Prop where
 ne:c≠[]
 has:∀ i∈c,∃ a,lget l i=some a
theorem q34_.spec {l c:List Int} (h:In1 l c) {i:Int} (hi:i∈c):∃ b,q34_.C i l c b/\(b=true↔Bad1 l c i):=by
 obtain ⟨a,ha⟩:=h.has i hi;obtain ⟨h0,hh0⟩:∃ h0,c[0]? = some h0:=by
  match c,h.ne with
  | x::t,_=>exact ⟨x,rfl⟩
 have hd:c.headD 0=h0:=by
  match c,hh0 with
  | x::t,e=>simpa using e
 obtain ⟨b,hb⟩:=h.has h0 (List.mem_of_getElem? hh0);obtain ⟨r,h1,h2⟩:=q34_.enter i l c (fun r=>(r=true↔Bad1 l c i)) (by
  refine ⟨a,ha,h0,by have:=Ab4 (l:=c) (k:=0);rw [hh0] at this;exact this,b,hb,?_⟩;unfold Bad1;rw [hd,Azy ha,Azy hb];simp)
 exact ⟨r,h2,h1⟩
namespace q16_
theorem loop {l c:List Int} (h:In1 l c) (hn:c.length<Big):∀ (r:List Int) (k:Nat),c.drop k=r->(∀ i∈c.take k,¬ Bad1 l c i)->L1 c l c k (fun r=>(0<=r↔∃ i∈c,Bad1 l c i))
 | [],k,hd,hb=>by
  apply L1_step;have hk:=Aax hd;rw [if_neg (by omega)];rw [List.take_of_length_le hk] at hb;constructor
  ·intro h;omega
  ·rintro ⟨i,h1,h2⟩;exact absurd h2 (hb i h1)
 | i::r,k,hd,hb=>by
  apply L1_step;have hk:=Aay hd;have hi:=List.mem_of_getElem? (Aaj hd);rw [if_pos (by omega)];obtain ⟨b,h1,h2⟩:=q34_.spec h hi;refine ⟨i,Aar hd,b,h1,?_⟩
  split
  ·rename_i hbt;exact ⟨fun _=>⟨i,hi,h2.1 hbt⟩,fun _=>by omega⟩
  ·rename_i hbf;rw [Aa3 (by unfold Big at hn;omega)];refine loop h hn r (k+1) (Aa7 hd) fun j hj=>?_;rw [Aey (Aaj hd)] at hj;rcases List.mem_append.1 hj with hj | hj
   ·exact hb j hj
   ·simp at hj;subst hj;exact fun hh=>hbf (h2.2 hh)
theorem spec {l c:List Int} (h:In1 l c) (hn:c.length<Big):∃ r,C c l c r/\(0<=r↔∃ i∈c,Bad1 l c i):=by
 obtain ⟨r,h1,h2⟩:=enter c l c (fun r=>(0<=r↔∃ i∈c,Bad1 l c i)) (loop h hn c 0 rfl (by simp));exact ⟨r,h2,h1⟩
end q16_
theorem q10_.spec {l c:List Int} (h:In1 l c) (hn:c.length<Big):∃ b,q10_.C c l c b/\(b=true↔∃ i∈c,Bad1 l c i):=by
 obtain ⟨r,h1,h2⟩:=q10_.enter c l c (fun b=>(b=true↔∃ i∈c,Bad1 l c i)) (by
  obtain ⟨q,q1,q2⟩:=q16_.spec h hn;refine ⟨q,q1,?_⟩;rw [← q2];simp)
 exact ⟨r,h2,h1⟩
theorem q39_.spec {l c:List Int} (h:In1 l c) (hn:c.length<Big):∃ b,q39_.C c l b/\(b=true↔∃ i∈c,Bad1 l c i):=by
 obtain ⟨r,h1,h2⟩:=q39_.enter c l (fun b=>(b=true↔∃ i∈c,Bad1 l c i)) (q10_.spec h hn);exact ⟨r,h2,h1⟩
def Bad2 (l:List Int) (c:List Int):Prop:=∃ i∈c,Bad1 l c i
namespace q17_
theorem loop {l:List Int} {cs:List (List Int)} (h:∀ c∈cs,In1 l c) (hn:cs.length<Big) (hn2:∀ c∈cs,c.length<Big):∀ (r:List (List Int)) (k:Nat),cs.drop k=r->(∀ c∈cs.take k,¬ Bad2 l c)->L1 cs l k (fun r=>(0<=r↔∃ c∈cs,Bad2 l c))
 | [],k,hd,hb=>by
  apply L1_step;have hk:=Aax hd;rw [if_neg (by omega)];rw [List.take_of_length_le hk] at hb;constructor
  ·intro h;omega
  ·rintro ⟨i,h1,h2⟩;exact absurd h2 (hb i h1)
 | c::r,k,hd,hb=>by
  apply L1_step;have hk:=Aay hd;have hc:=List.mem_of_getElem? (Aaj hd);rw [if_pos (by omega)];obtain ⟨b,h1,h2⟩:=q39_.spec (h c hc) (hn2 c hc);refine ⟨c,Aar hd,b,h1,?_⟩
  split
  ·rename_i hbt;exact ⟨fun _=>⟨c,hc,h2.1 hbt⟩,fun _=>by omega⟩
  ·rename_i hbf;rw [Aa3 (by unfold Big at hn;omega)];refine loop h hn hn2 r (k+1) (Aa7 hd) fun j hj=>?_;rw [Aey (Aaj hd)] at hj;rcases List.mem_append.1 hj with hj | hj
   ·exact hb j hj
   ·simp at hj;subst hj;exact fun hh=>hbf (h2.2 hh)
theorem spec {l:List Int} {cs:List (List Int)} (h:∀ c∈cs,In1 l c) (hn:cs.length<Big) (hn2:∀ c∈cs,c.length<Big):∃ r,C cs l r/\(0<=r↔∃ c∈cs,Bad2 l c):=by
 obtain ⟨r,h1,h2⟩:=enter cs l (fun r=>(0<=r↔∃ c∈cs,Bad2 l c)) (loop h hn hn2 cs 0 rfl (by simp));exact ⟨r,h2,h1⟩
end q17_
theorem q11_.spec {l:List Int} {cs:List (List Int)} (h:∀ c∈cs,In1 l c) (hn:cs.length<Big) (hn2:∀ c∈cs,c.length<Big):∃ b,q11_.C cs l b/\(b=true↔∃ c∈cs,Bad2 l c):=by
 obtain ⟨r,h1,h2⟩:=q11_.enter cs l (fun b=>(b=true↔∃ c∈cs,Bad2 l c)) (by
  obtain ⟨q,q1,q2⟩:=q17_.spec h hn hn2;refine ⟨q,q1,?_⟩;rw [← q2];simp)
 exact ⟨r,h2,h1⟩
def RefP (a b:api_Partition):Prop:=Akn a b=0/\∀ i j,0<=i/\i<a.Rows->0<=j/\j<a.Rows->Same a i j->Same b i j
theorem q44_.spec {a b:api_Partition} (ha:Aib a) (hb:Aib b):∃ r,q44_.C a b r/\(r=true↔RefP a b):=by
 obtain ⟨r,h1,h2⟩:=q44_.enter a b (fun r=>(r=true↔RefP a b)) (by
  refine ⟨_,q70_.spec ha hb,?_⟩
  split
  ·rename_i h0;obtain ⟨va,vb,hr⟩:=Bf2 h0;obtain ⟨v1,v2,v3⟩:=Afq.1 va;have hin:∀ c∈a.Classes,In1 (labN b) c:=fun c hc=>⟨fun hn=>by have:=v3.two c hc;rw [hn] at this;simp at this,fun i hi=>Afx (v3.inn c hc i hi).1 (by have:=(v3.inn c hc i hi).2;rw [Ar1];omega)⟩
   obtain ⟨q,q1,q2⟩:=q11_.spec hin ha.1 ha.2;refine ⟨_,q46_.spec hb vb,q,q1,?_⟩;have key:(∃ c∈a.Classes,Bad2 (labN b) c)↔¬ RefP a b:=by
    have sm:∀ {i j:Int},0<=i/\i<a.Rows->0<=j/\j<a.Rows->(lab1 (labN b) i=lab1 (labN b) j↔Same b i j):=fun hi hj=>by
     rw [Bfn (by rw [Ar1];omega) (by rw [Ar1];omega),Bdt vb (by omega) (by omega)]
    constructor
    ·rintro ⟨c,hc,i,hi,hbad⟩ hR;have m1:=v3.inn c hc i hi;have hm:=Bdj (v3.two c hc);have m2:=v3.inn c hc _ hm;exact hbad ((sm m1 m2).2 (hR.2 i _ m1 m2 (.inr ⟨c,hc,hi,hm⟩)))
    ·intro hR;apply Classical.byContradiction;intro hno;apply hR;refine ⟨h0,fun i j hi hj hs=>?_⟩;rcases hs with rfl | ⟨c,hc,h1,h2⟩
     ·exact .inl rfl
     ·have e:∀ k∈c,lab1 (labN b) k=lab1 (labN b) (c.headD 0):=fun k hk=>Classical.byContradiction fun hne=>hno ⟨c,hc,k,hk,hne⟩;exact (sm hi hj).1 ((e i h1).trans (e j h2).symm)
   cases q with
   | true=>simp only [Bool.not_true,Bool.false_eq_true,false_iff];exact key.1 (q2.1 rfl)
   | false=>
    simp only [Bool.not_false,true_iff];exact Classical.byContradiction fun hn=>by have:=q2.2 (key.2 hn);cases this
  ·rename_i h0;simp only [Bool.false_eq_true,false_iff];exact fun hR=>h0 hR.1)
 exact ⟨r,h2,h1⟩
end Go.Own
namespace Go.Own
open Go.Proofs D
set_option maxRecDepth 100000
set_option maxHeartbeats 4000000
namespace q64_
noncomputable def B:Code:=(Tryz.f17.body).getD .skip
def W:List Nat:=[0,1,2,3,4,5,6,10,19]
def res (r:Bool×Int):D×List D:=(.tup [.lit (.bool r.1),.lit (.int .i64 r.2)],[])
def C (x0:api_Table) (x1:api_FD) (r:Bool×Int):Prop:=Ret env 17 [.agg [.lit (.string x0.Name),.sl (x0.Attrs.map eS),.sl (x0.Rows.map Aa2)],.agg [.lit (.int .u32 x1.Lhs),.lit (.int .u32 x1.Rhs)]] (res r).1 (res r).2
theorem enter (x0:api_Table) (x1:api_FD) (φ:Bool×Int->Prop) (h :
 ∃ r1:Int,q86_.C x0 r1 /\
 (if r1=0 then
 ∃ r2:Bool,q48_.C x0 ((bOr .u32 x1.Lhs x1.Rhs)) r2 /\
 (if r2=true then
 ∃ r3:api_Partition,q84_.C x0 x1.Lhs r3 /\
 ∃ r4:api_Partition,q84_.C x0 x1.Rhs r4 /\
 ∃ r5:Bool,q44_.C r3 r4 r5 /\
 φ ((r5,0))
 else
 φ ((false,6)))
 else
 φ ((false,r1)))):∃ r,φ r/\C x0 x1 r:=
 mEnt (fd:=Tryz.f17) (body:=B) (V:=W) (res:=res) <|
 mCal 8 h (fun _ h=>h) fun r1 _ h=>
 Ab7 4 h Ab6 Ab5 (fun h=>
 mRet 7 h) fun h=>
 Adi 10 h (fun _ h=>h) (fun _ h=>
 mLo 8 h (fun _ h=>h) (hf:=(fun _=>Ba0)) fun r3 _ h=>
 mCal 3 h (fun _ h=>h) (hf:=(fun _=>Adr)) fun r4 _ h=>
 mCal 0 h (fun _ h=>h) fun r5 _ h=>
 mRet 3 h) fun _ h=>
 mRet 7 h
end q64_
namespace q49_
noncomputable def B:Code:=(Tryz.f150.body).getD .skip
def W:List Nat:=[0,1,2,3,4,5,6,8,9,10,11,14,15,16,17,24,25,26,27,31,32,33,34,44,53]
def res (r:List Int):D×List D:=(.own (r.map (eI .u32)),[])
def C (x0:api_Table) (r:List Int):Prop:=Ret env 150 [.agg [.lit (.string x0.Name),.sl (x0.Attrs.map eS),.sl (x0.Rows.map Aa2)]] (res r).1 (res r).2
def L1 (x0:api_Table) (z0:List Int) (z1:List (Int×Bool)) (z2:Int) (φ:List Int->Prop):Prop:=Pt env 150 W B [1,1,1,0,1,0] [(0,.agg [.lit (.string x0.Name),.sl (x0.Attrs.map eS),.sl (x0.Rows.map Aa2)]),(1,.box [.lit (.string x0.Name),.sl (x0.Attrs.map eS),.sl (x0.Rows.map Aa2)]),(3,.own (z0.map (eI .u32))),(4,(eMap (Value.int .u32) (fun (x:Bool)=>D.lit (.bool x)) z1)),(14,.sl (x0.Rows.map Aa2)),(15,.lit (.int .i64 ((x0.Rows.length:Int)))),(16,.lit (.int .i64 z2))] (Lv env 150 Tryz.f150 1 res φ)
def L2 (x0:api_Table) (z0:List Int) (z1:List (Int×Bool)) (a1:api_Row) (z2:Int) (z3:List api_Row) (z4 z5:Int) (φ:List Int->Prop):Prop:=Pt env 150 W B [1,1,1,0,1,0,0,1,1,0,0,1,1,0] [(0,.agg [.lit (.string x0.Name),.sl (x0.Attrs.map eS),.sl (x0.Rows.map Aa2)]),(1,.box [.lit (.string x0.Name),.sl (x0.Attrs.map eS),.sl (x0.Rows.map Aa2)]),(3,.own (z0.map (eI .u32))),(4,(eMap (Value.int .u32) (fun (x:Bool)=>D.lit (.bool x)) z1)),(6,.box [.lit (.int .i64 a1.ID),.sl (a1.Values.map Aa5)]),(14,.sl (x0.Rows.map Aa2)),(15,.lit (.int .i64 ((x0.Rows.length:Int)))),(16,.lit (.int .i64 z2)),(24,.sl (z3.map Aa2)),(25,.lit (.int .i64 z4)),(26,.lit (.int .i64 z5))] (Lv env 150 Tryz.f150 1 res φ)
def L3 (x0:api_Table) (z0:List Int) (z1:List (Int×Bool)) (a1 a4:api_Row) (z2 z3:Int) (z4:List api_Row) (z5 z6 z7:Int) (φ:List Int->Prop):Prop:=Pt env 150 W B [1,1,1,0,1,0,0,1,1,0,0,1,1,0,0,1,1,0,0,1,1,0,1,0] [(0,.agg [.lit (.string x0.Name),.sl (x0.Attrs.map eS),.sl (x0.Rows.map Aa2)]),(1,.box [.lit (.string x0.Name),.sl (x0.Attrs.map eS),.sl (x0.Rows.map Aa2)]),(3,.own (z0.map (eI .u32))),(4,(eMap (Value.int .u32) (fun (x:Bool)=>D.lit (.bool x)) z1)),(6,.box [.lit (.int .i64 a1.ID),.sl (a1.Values.map Aa5)]),(8,.box [.lit (.int .i64 a4.ID),.sl (a4.Values.map Aa5)]),(9,.lit (.int .u32 z2)),(14,.sl (x0.Rows.map Aa2)),(15,.lit (.int .i64 ((x0.Rows.length:Int)))),(16,.lit (.int .i64 z3)),(24,.sl (z4.map Aa2)),(25,.lit (.int .i64 z5)),(26,.lit (.int .i64 z6)),(31,.sl (a1.Values.map Aa5)),(32,.lit (.int .i64 ((a1.Values.length:Int)))),(33,.lit (.int .i64 z7))] (Lv env 150 Tryz.f150 1 res φ)
def L4 (x0:api_Table) (z0:List Int) (z1:List (Int×Bool)) (a1 a4:api_Row) (z2 z3:Int) (z4:List api_Row) (z5 z6 z7:Int) (φ:List Int->Prop):Prop:=Pt env 150 W B [1,1,1,0,1,0,0,1,1,0,0,1,1,0,0,1,1,0,0,1,1,0,1,0,0,1,1,1] [(0,.agg [.lit (.string x0.Name),.sl (x0.Attrs.map eS),.sl (x0.Rows.map Aa2)]),(1,.box [.lit (.string x0.Name),.sl (x0.Attrs.map eS),.sl (x0.Rows.map Aa2)]),(3,.own (z0.map (eI .u32))),(4,(eMap (Value.int .u32) (fun (x:Bool)=>D.lit (.bool x)) z1)),(6,.box [.lit (.int .i64 a1.ID),.sl (a1.Values.map Aa5)]),(8,.box [.lit (.int .i64 a4.ID),.sl (a4.Values.map Aa5)]),(9,.lit (.int .u32 z2)),(14,.sl (x0.Rows.map Aa2)),(15,.lit (.int .i64 ((x0.Rows.length:Int)))),(16,.lit (.int .i64 z3)),(24,.sl (z4.map Aa2)),(25,.lit (.int .i64 z5)),(26,.lit (.int .i64 z6)),(31,.sl (a1.Values.map Aa5)),(32,.lit (.int .i64 ((a1.Values.length:Int)))),(33,.lit (.int .i64 z7))] (Lv env 150 Tryz.f150 1 res φ)
def L5 (x0:api_Table) (z0:List Int) (z1:List (Int×Bool)) (a1:api_Row) (z2:Int) (z3:List api_Row) (z4 z5:Int) (φ:List Int->Prop):Prop:=Pt env 150 W B [1,1,1,0,1,0,0,1,1,0,0,1,1,0,0,1,1,1] [(0,.agg [.lit (.string x0.Name),.sl (x0.Attrs.map eS),.sl (x0.Rows.map Aa2)]),(1,.box [.lit (.string x0.Name),.sl (x0.Attrs.map eS),.sl (x0.Rows.map Aa2)]),(3,.own (z0.map (eI .u32))),(4,(eMap (Value.int .u32) (fun (x:Bool)=>D.lit (.bool x)) z1)),(6,.box [.lit (.int .i64 a1.ID),.sl (a1.Values.map Aa5)]),(14,.sl (x0.Rows.map Aa2)),(15,.lit (.int .i64 ((x0.Rows.length:Int)))),(16,.lit (.int .i64 z2)),(24,.sl (z3.map Aa2)),(25,.lit (.int .i64 z4)),(26,.lit (.int .i64 z5))] (Lv env 150 Tryz.f150 1 res φ)
theorem L1_step (x0:api_Table) (z0:List Int) (z1:List (Int×Bool)) (z2:Int) (φ:List Int->Prop) (h :
 (if z2<(x0.Rows.length:Int) then
 ∃ a1,lget x0.Rows z2=some a1 /\
 0<=z2 /\
 (0<=z2.toNat/\z2.toNat<=x0.Rows.length) /\
 q49_.L2 x0 z0 z1 a1 z2 ((List.take (z2.toNat-0) x0.Rows)) (((List.take (z2.toNat-0) x0.Rows).length:Int)) 0 φ
 else
 φ z0)):L1 x0 z0 z1 z2 φ:=
 mIn <|
 mAsk 2 h dT dF (fun h=>
 mIx 5 Aa2 h fun a1 h2 h=>
 h.elim fun h3 h=>
 h.elim fun h4 h=>
 mVl 9 (Ahm (t:=45) (x:=(.tmp 22)) (lo:=none) (hi:=(some (.tmp 23))) (lo':=none) (hi':=some (z2).toNat) (e:=Aa2) (l:=x0.Rows) (et:=151) (k:=2) (by kernel_rfl) (by kernel_rfl) Adm (Acw (i:=z2) (q:=.i64) (by kernel_rfl) h3) (by kernel_rfl) (by kernel_rfl) (fun _=>rfl) (by kernel_rfl) h4.1 h4.2) <|
 mLen 0 Aa2 ((List.take (z2.toNat-0) x0.Rows)) <|
 mFin 2 h) fun h=>
 mRet 7 h
theorem L2_step (x0:api_Table) (z0:List Int) (z1:List (Int×Bool)) (a1:api_Row) (z2:Int) (z3:List api_Row) (z4 z5:Int) (φ:List Int->Prop) (h :
 (if z5<z4 then
 ∃ a5,lget z3 z5=some a5 /\
 q49_.L3 x0 z0 z1 a1 a5 0 z2 z3 z4 z5 0 φ
 else
 q49_.L1 x0 z0 z1 ((IntKind.wrap .i64 (z2+1))) φ)):L2 x0 z0 z1 a1 z2 z3 z4 z5 φ:=
 mIn <|
 mAsk 2 h dT dF (fun h=>
 mIx 4 Aa2 h fun a5 h6 h=>
 mLen 10 Aa5 a1.Values <|
 mFin 2 h) fun h=>
 mFin 7 h
theorem L3_step (x0:api_Table) (z0:List Int) (z1:List (Int×Bool)) (a1 a4:api_Row) (z2 z3:Int) (z4:List api_Row) (z5 z6 z7:Int) (φ:List Int->Prop) (h :
 (if z7<(a1.Values.length:Int) then
 ∃ a7,lget a1.Values z7=some a7 /\
 ∃ a9,lget a4.Values z7=some a9 /\
 (if (and (a7.Kind == a9.Kind) (and (a7.Num == a9.Num) (and (a7.Str.toList == a9.Str.toList) true)))=true then
 0<=z7 /\
 q49_.L4 x0 z0 z1 a1 a4 ((bOr .u32 z2 (shlw .u32 1 z7))) z3 z4 z5 z6 z7 φ
 else
 q49_.L4 x0 z0 z1 a1 a4 z2 z3 z4 z5 z6 z7 φ)
 else
 (if (Ac1 z2 z1 false)=true then
 q49_.L5 x0 z0 z1 a1 z3 z4 z5 z6 φ
 else
 (z0.length+1)*4<=140737488355328 /\
 q49_.L5 x0 ((z0++[z2])) ((mset z2 true z1)) a1 z3 z4 z5 z6 φ))):L3 x0 z0 z1 a1 a4 z2 z3 z4 z5 z6 z7 φ:=
 mIn <|
 mAsk 2 h dT dF (fun h=>
 mIx 5 Aa5 h fun a7 h8 h=>
 mIx 10 Aa5 h fun a9 h10 h=>
 mBiA 1 h id fls (hd:=(Azj (t:=153) (xs:=[.lit (.int .i64 a7.Kind),.lit (.int .i64 a7.Num),.lit (.string a7.Str)]) (ys:=[.lit (.int .i64 a9.Kind),.lit (.int .i64 a9.Num),.lit (.string a9.Str)]) (l:=[(a7.Kind == a9.Kind),(a7.Num == a9.Num),(a7.Str.toList == a9.Str.toList)]))) (fun h=>
 h.elim fun h11 h=>
 mBi 5 (Adt (t:=35) (q:=.u32) (q':=.i64) (i1:=1) h11) <|
 mFin 3 h) fun h=>
 mFin 3 h) fun h=>
 mAsk 6 h id fls (hv:=(Akg Aog (fun _=>by kernel_rfl) (ek:=(Value.int .u32)) (ev:=(fun (x:Bool)=>D.lit (.bool x))) (t:=288) (x:=(.tmp 50)) (kx:=(.tmp 51)) (s:=4) (ps:=[]) (l:=z1) (kd:=.lit (.int .u32 z2)) (kv:=z2) (kt:=35) (vt:=4) (v0:=false) (by kernel_rfl) (by kernel_rfl) (by kernel_rfl) (by kernel_rfl) (by kernel_rfl) (by kernel_rfl) (by kernel_rfl) (by kernel_rfl))) (fun h=>
 mFin 4 h) fun h=>
 mOp 6 (Ak4 Aog (fun _=>by kernel_rfl) (ek:=(Value.int .u32)) (ev:=(fun (x:Bool)=>D.lit (.bool x))) (t:=288) (mx:=(.tmp 54)) (kx:=(.tmp 55)) (vx:=(.const (.bool true))) (s:=4) (ps:=[]) (l:=z1) (kd:=.lit (.int .u32 z2)) (kv:=z2) (kt:=35) (vt:=4) (v:=true) (d:=.lit (.bool true)) (by kernel_rfl) (by kernel_rfl) (by kernel_rfl) (by kernel_rfl) (by kernel_rfl) (by kernel_rfl) (by kernel_rfl) (by kernel_rfl) (by kernel_rfl) (Ajm (by kernel_rfl))) <|
 mApp 5 (eI .u32) z0 ([z2]) h fun h=>
 mFin 2 h
theorem L4_step (x0:api_Table) (z0:List Int) (z1:List (Int×Bool)) (a1 a4:api_Row) (z2 z3:Int) (z4:List api_Row) (z5 z6 z7:Int) (φ:List Int->Prop) (h :
 q49_.L3 x0 z0 z1 a1 a4 z2 z3 z4 z5 z6 ((IntKind.wrap .i64 (z7+1))) φ):L4 x0 z0 z1 a1 a4 z2 z3 z4 z5 z6 z7 φ:=
 mIn <|
 mFin 4 h
theorem L5_step (x0:api_Table) (z0:List Int) (z1:List (Int×Bool)) (a1:api_Row) (z2:Int) (z3:List api_Row) (z4 z5:Int) (φ:List Int->Prop) (h :
 q49_.L2 x0 z0 z1 a1 z2 z3 z4 ((IntKind.wrap .i64 (z5+1))) φ):L5 x0 z0 z1 a1 z2 z3 z4 z5 φ:=
 mIn <|
 mFin 4 h
theorem enter (x0:api_Table) (φ:List Int->Prop) (h :
 q49_.L1 x0 ([]) ([]) 0 φ):∃ r,φ r/\C x0 r:=
 mEnt (fd:=Tryz.f150) (body:=B) (V:=W) (res:=res) <|
 mLen 14 Aa2 x0.Rows <|
 mFin 2 h
end q49_
namespace q65_
noncomputable def B:Code:=(Tryz.f78.body).getD .skip
def W:List Nat:=[0,1,2,4,5,6,7,8,10,11,13,14,19,29,30,31,32,37,38,39,40,47,58]
def res (r:api_FD×Int):D×List D:=(.tup [.agg [.lit (.int .u32 r.1.Lhs),.lit (.int .u32 r.1.Rhs)],.lit (.int .i64 r.2)],[])
def C (x0:api_Table) (x1:List api_FD) (r:api_FD×Int):Prop:=Ret env 78 [.agg [.lit (.string x0.Name),.sl (x0.Attrs.map eS),.sl (x0.Rows.map Aa2)],.sl (x1.map Aa1)] (res r).1 (res r).2
def L1 (x1:List api_FD) (z0:Int) (r2 r4:List Int) (z1:Int) (φ:api_FD×Int->Prop):Prop:=Pt env 78 W B [1,1,1,1,0,1,0] [(1,.sl (x1.map Aa1)),(4,.box [.lit (.int .u32 0),.lit (.int .u32 0)]),(7,.lit (.int .i64 z0)),(8,.own (r2.map (eI .u32))),(29,.sl (r4.map (eI .u32))),(30,.lit (.int .i64 ((r4.length:Int)))),(31,.lit (.int .i64 z1))] (Lv env 78 Tryz.f78 2 res φ)
def L2 (x1:List api_FD) (z0:Int) (r2:List Int) (a5 r7:Int) (r4:List Int) (z1 z2:Int) (φ:api_FD×Int->Prop):Prop:=Pt env 78 W B [1,1,1,1,0,1,0,0,1,1,0,0,1,1,0,1,0] [(1,.sl (x1.map Aa1)),(4,.box [.lit (.int .u32 0),.lit (.int .u32 0)]),(7,.lit (.int .i64 z0)),(8,.own (r2.map (eI .u32))),(10,.lit (.int .u32 a5)),(11,.lit (.int .u32 r7)),(29,.sl (r4.map (eI .u32))),(30,.lit (.int .i64 ((r4.length:Int)))),(31,.lit (.int .i64 z1)),(37,.alias 8 []),(38,.lit (.int .i64 ((r2.length:Int)))),(39,.lit (.int .i64 z2))] (Lv env 78 Tryz.f78 2 res φ)
def L3 (x1:List api_FD) (z0:Int) (r2:List Int) (a5 z1:Int) (r4:List Int) (z2 z3:Int) (φ:api_FD×Int->Prop):Prop:=Pt env 78 W B [1,1,1,1,0,1,0,0,1,1,0,0,1,1,0,1,0,0,1,1,1] [(1,.sl (x1.map Aa1)),(4,.box [.lit (.int .u32 0),.lit (.int .u32 0)]),(7,.lit (.int .i64 z0)),(8,.own (r2.map (eI .u32))),(10,.lit (.int .u32 a5)),(11,.lit (.int .u32 z1)),(29,.sl (r4.map (eI .u32))),(30,.lit (.int .i64 ((r4.length:Int)))),(31,.lit (.int .i64 z2)),(37,.alias 8 []),(38,.lit (.int .i64 ((r2.length:Int)))),(39,.lit (.int .i64 z3))] (Lv env 78 Tryz.f78 2 res φ)
theorem L1_step (x1:List api_FD) (z0:Int) (r2 r4:List Int) (z1:Int) (φ:api_FD×Int->Prop) (h :
 (if z1<(r4.length:Int) then
 ∃ a5,lget r4 z1=some a5 /\
 ∃ r7:Int,q69_.C z0 r7 /\
 q65_.L2 x1 z0 r2 a5 r7 r4 z1 0 φ
 else
 φ (((⟨0,0⟩:api_FD),4)))):L1 x1 z0 r2 r4 z1 φ:=
 mIn <|
 mAsk 2 h dT dF (fun h=>
 mIx 4 (eI .u32) h fun a5 h6 h=>
 mCal 5 h (fun _ h=>h) fun r7 _ h=>
 mLen 4 (eI .u32) r2 <|
 mFin 2 h) fun h=>
 mRet 8 h
theorem L2_step (x1:List api_FD) (z0:Int) (r2:List Int) (a5 r7:Int) (r4:List Int) (z1 z2:Int) (φ:api_FD×Int->Prop) (h :
 (if z2<(r2.length:Int) then
 ∃ a8,lget r2 z2=some a8 /\
 (if (bAnd .u32 a8 a5)=a5 then
 q65_.L3 x1 z0 r2 a5 ((bAnd .u32 r7 a8)) r4 z1 z2 φ
 else
 q65_.L3 x1 z0 r2 a5 r7 r4 z1 z2 φ)
 else
 ∃ r10:Int,q75_.C x1 a5 r10 /\
 (if (Aaa .u32 r7 r10)=0 then
 q65_.L1 x1 z0 r2 r4 ((IntKind.wrap .i64 (z1+1))) φ
 else
 φ (((⟨a5,(bAnd .u32 (Aaa .u32 r7 r10) (IntKind.wrap .u32 (0-(Aaa .u32 r7 r10))))⟩:api_FD),0))))):L2 x1 z0 r2 a5 r7 r4 z1 z2 φ:=
 mIn <|
 mAsk 2 h dT dF (fun h=>
 mIy 4 (eI .u32) h fun a8 h9 h=>
 mLd 0 (eI .u32) h9 <|
 mAsk 7 h Abz Aby (fun h=>
 mFin 8 h) fun h=>
 mFin 3 h) fun h=>
 mCal 7 h (fun _ h=>h) fun r10 _ h=>
 Ab7 5 h Ab6 Ab5 (fun h=>
 mRet 12 h) fun h=>
 mFin 7 h
theorem L3_step (x1:List api_FD) (z0:Int) (r2:List Int) (a5 z1:Int) (r4:List Int) (z2 z3:Int) (φ:api_FD×Int->Prop) (h :
 q65_.L2 x1 z0 r2 a5 z1 r4 z2 ((IntKind.wrap .i64 (z3+1))) φ):L3 x1 z0 r2 a5 z1 r4 z2 z3 φ:=
 mIn <|
 mFin 4 h
theorem enter (x0:api_Table) (x1:List api_FD) (φ:api_FD×Int->Prop) (h :
 ∃ r1:Int,q36_.C x0 x1 r1 /\
 (if r1=0 then
 ∃ r2:List Int,q49_.C x0 r2 /\
 ∃ r3:Int,q69_.C ((x0.Attrs.length:Int)) r3 /\
 ∃ r4:List Int,q56_.C r3 r4 /\
 q65_.L1 x1 ((x0.Attrs.length:Int)) r2 r4 0 φ
 else
 φ (((⟨0,0⟩:api_FD),r1)))):∃ r,φ r/\C x0 x1 r:=
 mEnt (fd:=Tryz.f78) (body:=B) (V:=W) (res:=res) <|
 mCal 8 h (fun _ h=>h) fun r1 _ h=>
 Ab7 4 h Ab6 Ab5 (fun h=>
 mRet 8 h) fun h=>
 mLen 6 eS x0.Attrs <|
 mCal 4 h (fun _ h=>h) (hf:=(fun _=>Aai (Aae (e:=(eI .u32)) (fun _=>rfl)) rfl)) fun r2 _ h=>
 mCal 4 h (fun _ h=>h) fun r3 _ h=>
 mCal 0 h (fun _ h=>h) (hf:=(fun _=>Adr)) fun r4 _ h=>
 mLen 0 (eI .u32) r4 <|
 mFin 2 h
end q65_
namespace q40_
noncomputable def B:Code:=(Tryz.f151.body).getD .skip
def W:List Nat:=[0,1,2,3,4,5]
def res (r:Bool):D×List D:=(.lit (.bool r),[])
def C (x0:api_FD) (k1_0:ByteArray) (k1_1:List ByteArray) (k1_2:List api_Row) (r:Bool):Prop:=Ret env 151 [.agg [.lit (.int .u32 x0.Lhs),.lit (.int .u32 x0.Rhs)],.ref [.lit (.string k1_0),.sl (k1_1.map eS),.sl (k1_2.map Aa2)]] (res r).1 (res r).2
theorem enter (x0:api_FD) (k1_0:ByteArray) (k1_1:List ByteArray) (k1_2:List api_Row) (φ:Bool->Prop) (h :
 ∃ r1:Bool×Int,q64_.C ((⟨k1_0,k1_1,k1_2⟩:api_Table)) x0 r1 /\
 φ ((not r1.1))):∃ r,φ r/\C x0 k1_0 k1_1 k1_2 r:=
 mEnt (fd:=Tryz.f151) (body:=B) (V:=W) (res:=res) <|
 mCal 7 h (fun _ h=>h) (hf:=(fun _=>Aai (Aaz (Aa4 rfl (Aa4 rfl Aao))) rfl)) fun r1 _ h=>
 mRet 11 h
end q40_
namespace q12_
noncomputable def B:Code:=(Tryz.f126.body).getD .skip
def W:List Nat:=[0,1,4,5,7,8,9,16]
def res (r:Int):D×List D:=(.lit (.int .i64 r),[])
def C (x0:List api_FD) (k1_0:ByteArray) (k1_1:List ByteArray) (k1_2:List api_Row) (r:Int):Prop:=Ret env 126 [.sl (x0.map Aa1),.fn 151 [.ref [.lit (.string k1_0),.sl (k1_1.map eS),.sl (k1_2.map Aa2)]]] (res r).1 (res r).2
def L1 (x0:List api_FD) (k1_0:ByteArray) (k1_1:List ByteArray) (k1_2:List api_Row) (z0:Int) (φ:Int->Prop):Prop:=Pt env 126 W B [1,0,1,0] [(0,.sl (x0.map Aa1)),(1,.fn 151 [.ref [.lit (.string k1_0),.sl (k1_1.map eS),.sl (k1_2.map Aa2)]]),(7,.lit (.int .i64 ((x0.length:Int)))),(8,.lit (.int .i64 z0))] (Lv env 126 Tryz.f126 2 res φ)
theorem L1_step (x0:List api_FD) (k1_0:ByteArray) (k1_1:List ByteArray) (k1_2:List api_Row) (z0:Int) (φ:Int->Prop) (h :
 (if z0<(x0.length:Int) then
 ∃ a1,lget x0 z0=some a1 /\
 ∃ r3:Bool,q40_.C a1 k1_0 k1_1 k1_2 r3 /\
 (if r3=true then
 φ z0
 else
 q12_.L1 x0 k1_0 k1_1 k1_2 ((IntKind.wrap .i64 (z0+1))) φ)
 else
 φ ((-1)))):L1 x0 k1_0 k1_1 k1_2 z0 φ:=
 mIn <|
 mAsk 2 h dT dF (fun h=>
 mIx 11 Aa1 h fun a1 h2 h=>
 Adi 1 h (fun _ h=>h) (fun _ h=>
 mRet 6 h) fun _ h=>
 mFin 7 h) fun h=>
 mRet 6 h
theorem enter (x0:List api_FD) (k1_0:ByteArray) (k1_1:List ByteArray) (k1_2:List api_Row) (φ:Int->Prop) (h :
 q12_.L1 x0 k1_0 k1_1 k1_2 0 φ):∃ r,φ r/\C x0 k1_0 k1_1 k1_2 r:=
 mEnt (fd:=Tryz.f126) (body:=B) (V:=W) (res:=res) <|
 mLen 5 Aa1 x0 <|
 mFin 2 h
end q12_
namespace q50_
noncomputable def B:Code:=(Tryz.f79.body).getD .skip
def W:List Nat:=[0,1,2,4,5,6,7,12,19]
def res (r:api_FD×Int):D×List D:=(.tup [.agg [.lit (.int .u32 r.1.Lhs),.lit (.int .u32 r.1.Rhs)],.lit (.int .i64 r.2)],[])
def C (x0:api_Table) (x1:List api_FD) (r:api_FD×Int):Prop:=Ret env 79 [.agg [.lit (.string x0.Name),.sl (x0.Attrs.map eS),.sl (x0.Rows.map Aa2)],.sl (x1.map Aa1)] (res r).1 (res r).2
theorem enter (x0:api_Table) (x1:List api_FD) (φ:api_FD×Int->Prop) (h :
 ∃ r1:Int,q36_.C x0 x1 r1 /\
 (if r1=0 then
 ∃ r2:Int,q12_.C x1 x0.Name x0.Attrs x0.Rows r2 /\
 (if r2<0 then
 φ (((⟨0,0⟩:api_FD),4))
 else
 ∃ a3,lget x1 r2=some a3 /\
 φ ((a3,0)))
 else
 φ (((⟨0,0⟩:api_FD),r1)))):∃ r,φ r/\C x0 x1 r:=
 mEnt (fd:=Tryz.f79) (body:=B) (V:=W) (res:=res) <|
 mCal 8 h (fun _ h=>h) fun r1 _ h=>
 Ab7 4 h Ab6 Ab5 (fun h=>
 mRet 8 h) fun h=>
 mCal 6 h (fun _ h=>h) fun r2 _ h=>
 mAsk 4 h dT dF (fun h=>
 mRet 7 h) fun h=>
 mIx 6 Aa1 h fun a3 h4 h=>
 mRet 4 h
end q50_
namespace q66_
noncomputable def B:Code:=(Tryz.f26.body).getD .skip
def W:List Nat:=[0,1,2,4,5,6,7,8,9,10,15]
def res (r:Bool×Int):D×List D:=(.tup [.lit (.bool r.1),.lit (.int .i64 r.2)],[])
def C (x0:api_Table) (x1:List api_FD) (r:Bool×Int):Prop:=Ret env 26 [.agg [.lit (.string x0.Name),.sl (x0.Attrs.map eS),.sl (x0.Rows.map Aa2)],.sl (x1.map Aa1)] (res r).1 (res r).2
theorem enter (x0:api_Table) (x1:List api_FD) (φ:Bool×Int->Prop) (h :
 ∃ r1:Int,q36_.C x0 x1 r1 /\
 (if r1=0 then
 ∃ r2:api_FD×Int,q65_.C x0 x1 r2 /\
 ∃ r3:api_FD×Int,q50_.C x0 x1 r3 /\
 (if r2.2=4 then
 φ (((r3.2 == 4),0))
 else
 φ ((false,0)))
 else
 φ ((false,r1)))):∃ r,φ r/\C x0 x1 r:=
 mEnt (fd:=Tryz.f26) (body:=B) (V:=W) (res:=res) <|
 mCal 8 h (fun _ h=>h) fun r1 _ h=>
 Ab7 4 h Ab6 Ab5 (fun h=>
 mRet 7 h) fun h=>
 mCal 6 h (fun _ h=>h) (hf:=(fun _=>Aai (Aaz (Aa4 (Aqx (Aa4 rfl (Aa4 rfl Aao))) (Aa4 rfl Aao))) rfl)) fun r2 _ h=>
 mCal 10 h (fun _ h=>h) (hf:=(fun _=>Aai (Aaz (Aa4 (Aqx (Aa4 rfl (Aa4 rfl Aao))) (Aa4 rfl Aao))) rfl)) fun r3 _ h=>
 mAsk 9 h Abz Aby (fun h=>
 mRet 7 h) fun h=>
 mRet 7 h
end q66_
namespace q67_
noncomputable def B:Code:=(Tryz.f11.body).getD .skip
def W:List Nat:=[0,1,4,5,6,7,13]
def res (r:List api_FD):D×List D:=(.own (r.map Aa1),[])
def C (x0:Int) (x1:List drossref09_Dep) (r:List api_FD):Prop:=Ret env 11 [.lit (.int .i64 x0),.sl (x1.map Ab0)] (res r).1 (res r).2
def L1 (x1:List drossref09_Dep) (r1:Int) (z0:List api_FD) (z1:Int) (φ:List api_FD->Prop):Prop:=Pt env 11 W B [1,1,1,0,1,0] [(1,.sl (x1.map Ab0)),(5,.lit (.int .u32 r1)),(6,.own (z0.map Aa1)),(7,.lit (.int .i64 z1))] (Lv env 11 Tryz.f11 2 res φ)
theorem L1_step (x1:List drossref09_Dep) (r1:Int) (z0:List api_FD) (z1:Int) (φ:List api_FD->Prop) (h :
 (if z1<(x1.length:Int) then
 ∃ a2,lget x1 z1=some a2 /\
 (z0.length+1)*8<=140737488355328 /\
 q67_.L1 x1 r1 ((z0++[(⟨(bAnd .u32 (IntKind.wrap .u32 a2.L) r1),(bAnd .u32 (IntKind.wrap .u32 a2.R) r1)⟩:api_FD)])) ((IntKind.wrap .i64 (z1+1))) φ
 else
 φ z0)):L1 x1 r1 z0 z1 φ:=
 mIn <|
 mLen 4 Ab0 x1 <|
 mAsk 0 h dT dF (fun h=>
 mIx 7 Ab0 h fun a2 h3 h=>
 mIxf 7 Ab0 h3 <|
 mApp 7 Aa1 z0 ([(⟨(bAnd .u32 (IntKind.wrap .u32 a2.L) r1),(bAnd .u32 (IntKind.wrap .u32 a2.R) r1)⟩:api_FD)]) h fun h=>
 mFin 7 h) fun h=>
 mRet 7 h
theorem enter (x0:Int) (x1:List drossref09_Dep) (φ:List api_FD->Prop) (h :
 ∃ r1:Int,q52_.C x0 r1 /\
 q67_.L1 x1 r1 ([]) 0 φ):∃ r,φ r/\C x0 x1 r:=
 mEnt (fd:=Tryz.f11) (body:=B) (V:=W) (res:=res) <|
 mCal 5 h (fun _ h=>h) fun r1 _ h=>
 mFin 8 h
end q67_
namespace q78_
noncomputable def B:Code:=(Tryz.f19.body).getD .skip
def W:List Nat:=[0,1,2,3,4,5]
def res (r:Int×List api_FD×Bool):D×List D:=(.tup [.lit (.int .i64 r.1),.sl (r.2.1.map Aa1),.lit (.bool r.2.2)],[])
def C (x0:drossref09_Deps) (r:Int×List api_FD×Bool):Prop:=Ret env 19 [.agg [.lit (.int .u8 x0.N),.sl (x0.L.map Ab0)]] (res r).1 (res r).2
theorem enter (x0:drossref09_Deps) (φ:Int×List api_FD×Bool->Prop) (h :
 ∃ r1:List api_FD,q67_.C ((IntKind.wrap .i64 (Int.tmod x0.N 7))) x0.L r1 /\
 φ (((IntKind.wrap .i64 (Int.tmod x0.N 7)),r1,(decide ((x0.L.length:Int)<=6))))):∃ r,φ r/\C x0 r:=
 mEnt (fd:=Tryz.f19) (body:=B) (V:=W) (res:=res) <|
 mLoE 18 h (fun _ h=>h) (fun (r1:List api_FD)=>Azo (l:=r1) (e:=Aa1) (e':=Aa1) rfl (fun _=>rfl)) (hf:=(fun _=>Axq (Aae (e:=Aa1) (fun _=>rfl)))) fun r1 _ h=>
 mLen 2 Ab0 x0.L <|
 mRet 5 h
end q78_
namespace q51_
def res (r:Bool):D×List D:=(.lit (.bool r),[])
def C  (r:Bool):Prop:=Ret env 10 [] (res r).1 (res r).2
end q51_
end Go.Own
namespace Go.Own
set_option maxRecDepth 1000000
theorem q51_.run:Acg env 400 10 []=some (.lit (.bool true),[]):=by kernel_rfl
theorem q51_.spec:q51_.C true:=Ret.of q51_.run
end Go.Own
namespace Go.Own
open Go.Proofs D
set_option maxRecDepth 100000
set_option maxHeartbeats 4000000
namespace drosstop_TopCovers
noncomputable def B:Code:=(Tryz.f4.body).getD .skip
def W:List Nat:=[0,1,2,3,4,5,6,7,8,9,10,11,12,13,14,15,16,17,19,20,21,22,23,24,25,26,27,39,98,101,102,103,104,165]
def res (r:Bool):D×List D:=(.lit (.bool r),[])
def C (x0:drossref09_Deps) (r:Bool):Prop:=Ret env 4 [.agg [.lit (.int .u8 x0.N),.sl (x0.L.map Ab0)]] (res r).1 (res r).2
def L1 (r1:Int×List api_FD×Bool) (r3 r4:List api_FD×Int) (r5 r6:List Int×Int) (r7:Int×Int) (r8:api_Table×Int) (z0:Int) (φ:Bool->Prop):Prop:=Pt env 4 W B [1,1,1,1,1,1,1,1,1,1,0,1,0] [(3,.lit (.int .i64 r1.1)),(6,.sl (r3.1.map Aa1)),(8,.sl (r4.1.map Aa1)),(10,.sl (r5.1.map (eI .u32))),(12,.sl (r6.1.map (eI .u32))),(14,.lit (.int .u32 r7.1)),(16,.box [.lit (.string r8.1.Name),.sl (r8.1.Attrs.map eS),.sl (r8.1.Rows.map Aa2)]),(101,.own (([r3.1,r4.1]).map (eSl Aa1))),(102,.lit (.int .i64 (([r3.1,r4.1].length:Int)))),(103,.lit (.int .i64 z0))] (Lv env 4 Tryz.f4 1 res φ)
def L2  (φ:Bool->Prop):Prop:=Pt env 4 W B [1,1,0,1,0,0] [] (Lv env 4 Tryz.f4 1 res φ)
theorem L1_step (r1:Int×List api_FD×Bool) (r3 r4:List api_FD×Int) (r5 r6:List Int×Int) (r7:Int×Int) (r8:api_Table×Int) (z0:Int) (φ:Bool->Prop) (h :
 (if z0<([r3.1,r4.1].length:Int) then
 ∃ a9,lget ([r3.1,r4.1]) z0=some a9 /\
 ∃ r11:List Int×Int,q68_.C r1.1 a9 r11 /\
 ∃ r12:List Int×Int,q95_.C r1.1 a9 r12 /\
 ∃ r13:Int×Int,q92_.C r1.1 a9 r13 /\
 ∃ r14:Bool×Int,q66_.C r8.1 a9 r14 /\
 (if r11.2=0 then
 (if r12.2=0 then
 (if r13.2=0 then
 (if r14.2=0 then
 ∃ r15:Bool,q26_.C r11.1 r5.1 r15 /\
 (if r15=true then
 ∃ r16:Bool,q26_.C r12.1 r6.1 r16 /\
 (if r16=true then
 (if r13.1=r7.1 then
 (if r14.1=true then
 drosstop_TopCovers.L1 r1 r3 r4 r5 r6 r7 r8 ((IntKind.wrap .i64 (z0+1))) φ
 else
 φ false)
 else
 φ false)
 else
 φ false)
 else
 φ false)
 else
 φ false)
 else
 φ false)
 else
 φ false)
 else
 φ false)
 else
 φ true)):L1 r1 r3 r4 r5 r6 r7 r8 z0 φ:=
 mIn <|
 mAsk 2 h dT dF (fun h=>
 mIy 4 (eSl Aa1) h fun a9 h10 h=>
 mLd 0 (eSl Aa1) h10 <|
 Akw 5 h (fun _ h=>h) (fun (r11:List Int×Int)=>Ajq rfl (Ac3 (Abw (e:=(eI .u32)) (e':=(eI .u32)) (fun _=>rfl) r11.1) (Ac3 rfl Agn))) (hf:=(fun _=>Aai (Aaz (Aa4 (Aae (e:=(eI .u32)) (fun _=>rfl)) (Aa4 rfl Aao))) rfl)) fun r11 _ h=>
 mCal 9 h (fun _ h=>h) (hf:=(fun _=>Adr)) fun r12 _ h=>
 mCal 9 h (fun _ h=>h) (hf:=(fun _=>Aai (Aaz (Aa4 rfl (Aa4 rfl Aao))) rfl)) fun r13 _ h=>
 mCal 9 h (fun _ h=>h) (hf:=(fun _=>Aai (Aaz (Aa4 rfl (Aa4 rfl Aao))) rfl)) fun r14 _ h=>
 Ab7 8 h Ab6 Ab5 (fun h=>
 mRet 38 h) fun h=>
 Ab7 2 h Ab6 Ab5 (fun h=>
 mRet 35 h) fun h=>
 Ab7 3 h Ab6 Ab5 (fun h=>
 mRet 31 h) fun h=>
 Ab7 3 h Ab6 Ab5 (fun h=>
 mRet 27 h) fun h=>
 Adi 4 h (fun _ h=>h) (fun _ h=>
 Adi 5 h (fun _ h=>h) (fun _ h=>
 Ab7 5 h Ab6 Ab5 (fun h=>
 mRet 10 h) fun h=>
 mAsk 2 h id fls (fun h=>
 mFin 9 h) fun h=>
 mRet 7 h) fun _ h=>
 mRet 16 h) fun _ h=>
 mRet 22 h) fun h=>
 mRet 6 h
theorem L2_step  (φ:Bool->Prop) (h :
 ∃ r17:Bool,q51_.C  r17 /\
 φ r17):L2  φ:=
 mIn <|
 mCal 1 h (fun _ h=>h) fun r17 _ h=>
 mRet 2 h
theorem enter (x0:drossref09_Deps) (φ:Bool->Prop) (h :
 ∃ r1:Int×List api_FD×Bool,q78_.C x0 r1 /\
 ∃ r2:Bool,q51_.C  r2 /\
 (if r2=true then
 (if r1.2.2=true then
 ∃ r3:List api_FD×Int,q77_.C r1.1 r1.2.1 r3 /\
 ∃ r4:List api_FD×Int,q62_.C r1.1 r1.2.1 r4 /\
 ∃ r5:List Int×Int,q68_.C r1.1 r1.2.1 r5 /\
 ∃ r6:List Int×Int,q95_.C r1.1 r1.2.1 r6 /\
 ∃ r7:Int×Int,q92_.C r1.1 r1.2.1 r7 /\
 ∃ r8:api_Table×Int,q63_.C r1.1 r1.2.1 r8 /\
 (if r3.2=0 then
 (if r4.2=0 then
 (if r5.2=0 then
 (if r6.2=0 then
 (if r7.2=0 then
 (if r8.2=0 then
 drosstop_TopCovers.L1 r1 r3 r4 r5 r6 r7 r8 0 φ
 else
 φ false)
 else
 φ false)
 else
 φ false)
 else
 φ false)
 else
 φ false)
 else
 φ false)
 else
 drosstop_TopCovers.L2  φ)
 else
 drosstop_TopCovers.L2  φ)):∃ r,φ r/\C x0 r:=
 mEnt (fd:=Tryz.f4) (body:=B) (V:=W) (res:=res) <|
 mCal 6 h (fun _ h=>h) (hf:=(fun _=>Adr)) fun r1 _ h=>
 Adi 9 h (fun _ h=>h) (fun _ h=>
 mAsk 2 h id fls (fun h=>
 Akw 8 h (fun _ h=>h) (fun (r3:List api_FD×Int)=>Ajq rfl (Ac3 (Abw (e:=Aa1) (e':=Aa1) (fun _=>rfl) r3.1) (Ac3 rfl Agn))) (hf:=(fun _=>Aai (Aaz (Aa4 (Aae (e:=Aa1) (fun _=>rfl)) (Aa4 rfl Aao))) rfl)) fun r3 _ h=>
 Akw 9 h (fun _ h=>h) (fun (r4:List api_FD×Int)=>Ajq rfl (Ac3 (Abw (e:=Aa1) (e':=Aa1) (fun _=>rfl) r4.1) (Ac3 rfl Agn))) (hf:=(fun _=>Aai (Aaz (Aa4 (Aae (e:=Aa1) (fun _=>rfl)) (Aa4 rfl Aao))) rfl)) fun r4 _ h=>
 Akw 9 h (fun _ h=>h) (fun (r5:List Int×Int)=>Ajq rfl (Ac3 (Abw (e:=(eI .u32)) (e':=(eI .u32)) (fun _=>rfl) r5.1) (Ac3 rfl Agn))) (hf:=(fun _=>Aai (Aaz (Aa4 (Aae (e:=(eI .u32)) (fun _=>rfl)) (Aa4 rfl Aao))) rfl)) fun r5 _ h=>
 mCal 9 h (fun _ h=>h) (hf:=(fun _=>Adr)) fun r6 _ h=>
 mCal 9 h (fun _ h=>h) (hf:=(fun _=>Aai (Aaz (Aa4 rfl (Aa4 rfl Aao))) rfl)) fun r7 _ h=>
 Akw 9 h (fun _ h=>h) (fun (r8:api_Table×Int)=>Ajq rfl (Ac3 (Bb3 (Ac3 rfl (Ac3 (Abw (e:=eS) (e':=eS) (fun _=>rfl) r8.1.Attrs) (Ac3 (Abw (e:=Ae3) (e':=Aa2) (fun x=>(Ac3 rfl (Ac3 (Abw (e:=Aa5) (e':=Aa5) (fun _=>rfl) x.Values) Agn))) r8.1.Rows) Agn)))) (Ac3 rfl Agn))) (hf:=(fun _=>Aai (Aaz (Aa4 (Aqx (Aa4 rfl (Aa4 (Aae (e:=eS) (fun _=>rfl)) (Aa4 (Aae (e:=Ae3) (fun _=>(Aa4 rfl (Aa4 (Aae (e:=Aa5) (fun _=>rfl)) Aao)))) Aao)))) (Aa4 rfl Aao))) rfl)) fun r8 _ h=>
 Ab7 9 h Ab6 Ab5 (fun h=>
 mRet 25 h) fun h=>
 Ab7 2 h Ab6 Ab5 (fun h=>
 mRet 22 h) fun h=>
 Ab7 3 h Ab6 Ab5 (fun h=>
 mRet 18 h) fun h=>
 Ab7 3 h Ab6 Ab5 (fun h=>
 mRet 14 h) fun h=>
 Ab7 3 h Ab6 Ab5 (fun h=>
 mRet 10 h) fun h=>
 Ab7 3 h Ab6 Ab5 (fun h=>
 mRet 6 h) fun h=>
 mLen 8 (eSl Aa1) ([r3.1,r4.1]) <|
 mFin 2 h) fun h=>
 mFin 4 h) fun _ h=>
 mFin 7 h
end drosstop_TopCovers
end Go.Own
