/- No conditions. -/
import Derived.Test.YtfpooeoklmlepaaGreatDoorBase5
import Derived.Test.YtfpooeoklmlepaaGreatDoorOwn21
set_option linter.all false
open List renaming replicate->zA,take->zB,drop->zD
open Int renaming tmod->zC
namespace Go.Own
open Go.Proofs D
set_option maxRecDepth 100000
set_option maxHeartbeats 4000000
namespace q105_
noncomputable def B:Code:=(Tryz.f87.body).getD .skip
def W:List Nat:=[0,1,4]
def res(r:Bool):D×List D:=(.lit (.bool r),[])
def C(x0 x1:Int)(r:Bool):Prop:=Ret env 87 [.lit (.int .u32 x0),.lit (.int .u32 x1)] (res r).1 (res r).2
theorem enter(x0 x1:Int)(φ:Bool->Prop)(h:φ ((bAnd .u32 x0 x1)==x0)):∃r,φ r/\C x0 x1 r:=mEnt (fd:=Tryz.f87) (body:=B) (V:=W) (res:=res)<|mRet 11 h
end q105_
namespace q83_
noncomputable def B:Code:=(Tryz.f43.body).getD .skip
def W:List Nat:=[0,2,3,4,11]
def res(r:Int):D×List D:=(.lit (.int .u32 r),[])
def C(x0 r:Int):Prop:=Ret env 43 [.lit (.int .i64 x0)] (res r).1 (res r).2
def L1(x0 z0 z1:Int)(φ:Int->Prop):Prop:=Pt env 43 W B [1,1,0,1,0] [(0,.lit (.int .i64 x0)),(3,.lit (.int .u32 z0)),(4,.lit (.int .i64 z1))] (Lv env 43 Tryz.f43 1 res φ)
theorem L1_step(x0 z0 z1:Int)(φ:Int->Prop)(h:(if z1<x0 then(if z1<32 then 0<=z1/\L1 x0 (bOr .u32 z0 (shlw .u32 1 z1)) (IntKind.wrap .i64 (z1+1)) φ else φ z0)else φ z0)):L1 x0 z0 z1 φ:=mIn<|mAsk 4 h dT dF (fun h=>mAsk 2 h dT dF (fun h=>h.elim fun h1 h=>mBi 7 (Azn (t:=49) (q:=.u32) (q':=.i64) (i1:=1) h1)<|mFin 8 h) fun h=>mRet 8 h) fun h=>mRet 11 h
theorem enter(x0:Int)(φ:Int->Prop)(h:L1 x0 0 0 φ):∃r,φ r/\C x0 r:=mEnt (fd:=Tryz.f43) (body:=B) (V:=W) (res:=res)<|mFin 9 h
end q83_
namespace q110_
noncomputable def B:Code:=(Tryz.f44.body).getD .skip
def W:List Nat:=[0,1,4,6,12,15,16,17,18,19,29]
def res(r:Int):D×List D:=(.lit (.int .i64 r),[])
def C(x0:Int)(x1:List api_FD)(r:Int):Prop:=Ret env 44 [.lit (.int .i64 x0),.sl (x1.map Aa0)] (res r).1 (res r).2
def L1(x0:Int)(x1:List api_FD)(z0:Int)(φ:Int->Prop):Prop:=Pt env 44 W B [1,1,1,0,1,0] [(0,.lit (.int .i64 x0)),(1,.sl (x1.map Aa0)),(16,.sl (x1.map Aa0)),(17,.lit (.int .i64 (x1.length:Int))),(18,.lit (.int .i64 z0))] (Lv env 44 Tryz.f44 2 res φ)
theorem L1_step(x0:Int)(x1:List api_FD)(z0:Int)(φ:Int->Prop)(h:(if z0<(x1.length:Int)then ∃a1,lget x1 z0=some a1/\0<=x0/\(if(shrw .u32 (bOr .u32 a1.Lhs a1.Rhs) x0)=0 then L1 x0 x1 (IntKind.wrap .i64 (z0+1)) φ else φ 1)else φ 0)):L1 x0 x1 z0 φ:=mIn<|mAsk 2 h dT dF (fun h=>mIx 4 Aa0 h fun a1 h2 h=>h.elim fun h3 h=>mBi 11 (Atd (t:=49) (q:=.u32) (q':=.i64) (i1:=(bOr .u32 a1.Lhs a1.Rhs)) h3)<|Ac1 0 h Abv Abu (fun h=>mRet 5 h) fun h=>mFin 7 h) fun h=>mRet 6 h
theorem enter(x0:Int)(x1:List api_FD)(φ:Int->Prop)(h:(if x0<0 then φ 7 else(if 16<x0 then φ 7 else(if 64<(x1.length:Int)then φ 3 else L1 x0 x1 0 φ)))):∃r,φ r/\C x0 x1 r:=mEnt (fd:=Tryz.f44) (body:=B) (V:=W) (res:=res)<|mAsk 5 h dT dF (fun h=>mRet 9 h) fun h=>mAsk 2 h dT dF (fun h=>mRet 6 h) fun h=>mLen 6 Aa0 x1<|mAsk 0 h dT dF (fun h=>mRet 5 h) fun h=>mLen 5 Aa0 x1<|mFin 2 h
end q110_
namespace q61_
noncomputable def B:Code:=(Tryz.f63.body).getD .skip
def W:List Nat:=[0,1,4,5,6,12,15,21,41]
def res(r:Int):D×List D:=(.lit (.int .i64 r),[])
def C(x0:Int)(x1:List api_FD)(r:Int):Prop:=Ret env 63 [.lit (.int .i64 x0),.sl (x1.map Aa0)] (res r).1 (res r).2
def L1(x1:List api_FD)(r1 z0:Int)(φ:Int->Prop):Prop:=Pt env 63 W B [1,1,1,1,0,1,0] [(1,.sl (x1.map Aa0)),(5,.lit (.int .u32 r1)),(6,.lit (.int .i64 z0))] (Lv env 63 Tryz.f63 2 res φ)
theorem L1_step(x1:List api_FD)(r1 z0:Int)(φ:Int->Prop)(h:(if z0<(x1.length:Int)then ∃a2,lget x1 z0=some a2/\∃r4:Bool,q105_.C a2.Lhs r1 r4/\(if r4=true then ∃r5:Bool,q105_.C a2.Rhs r1 r5/\(if r5=true then L1 x1 r1 (IntKind.wrap .i64 (z0+1)) φ else φ 1)else φ 1)else φ 0)):L1 x1 r1 z0 φ:=mIn<|mLen 4 Aa0 x1<|mAsk 0 h dT dF (fun h=>mIx 6 Aa0 h fun a2 h3 h=>Aav 3 h (fun _ h=>h) (fun _ h=>mIxf 4 Aa0 h3<|Aav 3 h (fun _ h=>h) (fun _ h=>mFin 10 h) fun _ h=>mRet 7 h) fun _ h=>mRet 16 h) fun h=>mRet 6 h
theorem enter(x0:Int)(x1:List api_FD)(φ:Int->Prop)(h:(if x0<0 then φ 7 else(if 16<x0 then φ 7 else(if 64<(x1.length:Int)then φ 3 else ∃r1:Int,q83_.C x0 r1/\L1 x1 r1 0 φ)))):∃r,φ r/\C x0 x1 r:=mEnt (fd:=Tryz.f63) (body:=B) (V:=W) (res:=res)<|mAsk 5 h dT dF (fun h=>mRet 9 h) fun h=>mAsk 2 h dT dF (fun h=>mRet 6 h) fun h=>mLen 6 Aa0 x1<|mAsk 0 h dT dF (fun h=>mRet 5 h) fun h=>mCal 5 h (fun _ h=>h) fun r1 _ h=>mFin 5 h
end q61_
namespace q24_
noncomputable def B:Code:=(Tryz.f75.body).getD .skip
def W:List Nat:=[0,1,4,5,7,8,9,16]
def res(r:Int):D×List D:=(.lit (.int .i64 r),[])
def C(x0:List ByteArray)(x1:ByteArray)(r:Int):Prop:=Ret env 75 [.sl (x0.map eS),.lit (.string x1)] (res r).1 (res r).2
def L1(x0:List ByteArray)(x1:ByteArray)(z0:Int)(φ:Int->Prop):Prop:=Pt env 75 W B [1,0,1,0] [(0,.sl (x0.map eS)),(1,.lit (.string x1)),(7,.lit (.int .i64 (x0.length:Int))),(8,.lit (.int .i64 z0))] (Lv env 75 Tryz.f75 2 res φ)
theorem L1_step(x0:List ByteArray)(x1:ByteArray)(z0:Int)(φ:Int->Prop)(h:(if z0<(x0.length:Int)then ∃a1,lget x0 z0=some a1/\(if x1.toList=a1.toList then φ z0 else L1 x0 x1 (IntKind.wrap .i64 (z0+1)) φ)else φ (-1))):L1 x0 x1 z0 φ:=mIn<|mAsk 2 h dT dF (fun h=>mIx 11 eS h fun a1 h2 h=>mAsk 1 h Ass Asr (fun h=>mRet 6 h) fun h=>mFin 7 h) fun h=>mRet 6 h
theorem enter(x0:List ByteArray)(x1:ByteArray)(φ:Int->Prop)(h:L1 x0 x1 0 φ):∃r,φ r/\C x0 x1 r:=mEnt (fd:=Tryz.f75) (body:=B) (V:=W) (res:=res)<|mLen 5 eS x0<|mFin 2 h
end q24_
namespace q20_
noncomputable def B:Code:=(Tryz.f49.body).getD .skip
def W:List Nat:=[0,1,4]
def res(r:Bool):D×List D:=(.lit (.bool r),[])
def C(x0:List ByteArray)(x1:ByteArray)(r:Bool):Prop:=Ret env 49 [.sl (x0.map eS),.lit (.string x1)] (res r).1 (res r).2
theorem enter(x0:List ByteArray)(x1:ByteArray)(φ:Bool->Prop)(h:∃r1:Int,q24_.C x0 x1 r1/\φ (decide (0<=r1))):∃r,φ r/\C x0 x1 r:=mEnt (fd:=Tryz.f49) (body:=B) (V:=W) (res:=res)<|mCal 6 h (fun _ h=>h) fun r1 _ h=>mRet 3 h
end q20_
namespace q120_
noncomputable def B:Code:=(Tryz.f48.body).getD .skip
def W:List Nat:=[0,2,3,4,5,16,18,19,20,56]
def res(r:Bool):D×List D:=(.lit (.bool r),[])
def C(x0:ByteArray)(r:Bool):Prop:=Ret env 48 [.lit (.string x0)] (res r).1 (res r).2
def L1(x0:ByteArray)(z0:Int)(φ:Bool->Prop):Prop:=Pt env 48 W B [1,1,0,1,0] [(0,.lit (.string x0)),(18,.lit (.int .i64 (Ad5 x0))),(19,.lit (.int .i64 z0))] (Lv env 48 Tryz.f48 1 res φ)
def L2(x0:ByteArray)(z0 z1:Int)(z2:Bool)(φ:Bool->Prop):Prop:=Pt env 48 W B [1,1,0,1,0,0,1,1,0,0,1,1,1,0] [(0,.lit (.string x0)),(3,.lit (.int .i64 z0)),(4,.lit (.int .u8 z1)),(5,.lit (.bool z2)),(18,.lit (.int .i64 (Ad5 x0))),(19,.lit (.int .i64 z0))] (Lv env 48 Tryz.f48 1 res φ)
def L3(x0:ByteArray)(z0:Int)(φ:Bool->Prop):Prop:=Pt env 48 W B [1,1,0,1,0,0,1,1,1] [(0,.lit (.string x0)),(18,.lit (.int .i64 (Ad5 x0))),(19,.lit (.int .i64 z0))] (Lv env 48 Tryz.f48 1 res φ)
theorem L1_step(x0:ByteArray)(z0:Int)(φ:Bool->Prop)(h:(if z0<(Ad5 x0)then ∃b1,((0:Int)<=z0/\x0[z0.toNat]?=some b1)/\(if 97<=(u8i b1)then(if(u8i b1)<=122 then L2 x0 z0 (u8i b1) true φ else(if 65<=(u8i b1)then(if(u8i b1)<=90 then L2 x0 z0 (u8i b1) true φ else L2 x0 z0 (u8i b1) ((u8i b1)==95) φ)else L2 x0 z0 (u8i b1) ((u8i b1)==95) φ))else(if 65<=(u8i b1)then(if(u8i b1)<=90 then L2 x0 z0 (u8i b1) true φ else L2 x0 z0 (u8i b1) ((u8i b1)==95) φ)else L2 x0 z0 (u8i b1) ((u8i b1)==95) φ))else φ true)):L1 x0 z0 φ:=mIn<|mAsk 2 h dT dF (fun h=>mSt 10 h fun b1 h=>mAsk 4 h dT dF (fun h=>mAsk 2 h dT dF (fun h=>mFin 15 h) fun h=>mAsk 3 h dT dF (fun h=>mAsk 2 h dT dF (fun h=>mFin 8 h) fun h=>mFin 8 h) fun h=>mFin 11 h) fun h=>mAsk 6 h dT dF (fun h=>mAsk 2 h dT dF (fun h=>mFin 8 h) fun h=>mFin 8 h) fun h=>mFin 11 h) fun h=>mRet 6 h
theorem L2_step(x0:ByteArray)(z0 z1:Int)(z2:Bool)(φ:Bool->Prop)(h:(if z2=true then L3 x0 z0 φ else(if z0=0 then φ false else(if z1<48 then φ false else(if 57<z1 then φ false else L3 x0 z0 φ))))):L2 x0 z0 z1 z2 φ:=mIn<|mAsk 1 h id fls (fun h=>mFin 16 h) fun h=>mAsk 3 h Aaj Aai (fun h=>mRet 14 h) fun h=>mAsk 2 h dT dF (fun h=>mRet 11 h) fun h=>mAsk 3 h dT dF (fun h=>mRet 7 h) fun h=>mFin 5 h
theorem L3_step(x0:ByteArray)(z0:Int)(φ:Bool->Prop)(h:L1 x0 (IntKind.wrap .i64 (z0+1)) φ):L3 x0 z0 φ:=mIn<|mFin 4 h
theorem enter(x0:ByteArray)(φ:Bool->Prop)(h:(if x0.toList=(⟨#[]⟩:ByteArray).toList then φ false else(if 24<(Ad5 x0)then φ false else(if x0.toList=(⟨#[110,117,108,108]⟩:ByteArray).toList then φ false else L1 x0 0 φ)))):∃r,φ r/\C x0 r:=mEnt (fd:=Tryz.f48) (body:=B) (V:=W) (res:=res)<|mAsk 5 h Ass Asr (fun h=>mRet 14 h) fun h=>mAsk 3 h dT dF (fun h=>mRet 10 h) fun h=>mAsk 3 h Ass Asr (fun h=>mRet 6 h) fun h=>mFin 9 h
end q120_
namespace q123_
noncomputable def B:Code:=(Tryz.f78.body).getD .skip
def W:List Nat:=[0,1,2,4,5,15,20,31]
def res(r:Bool):D×List D:=(.lit (.bool r),[])
def C(x0:api_Value)(r:Bool):Prop:=Ret env 78 [.agg [.lit (.int .i64 x0.Kind),.lit (.int .i64 x0.Num),.lit (.string x0.Str)]] (res r).1 (res r).2
theorem enter(x0:api_Value)(φ:Bool->Prop)(h:(if x0.Kind=0 then(if x0.Num=0 then φ (x0.Str.toList==(⟨#[]⟩:ByteArray).toList)else φ false)else(if x0.Kind=1 then φ (x0.Str.toList==(⟨#[]⟩:ByteArray).toList)else(if x0.Kind=2 then(if x0.Num=0 then φ (decide ((Ad5 x0.Str)<=200))else φ false)else(if x0.Kind=3 then(if 1<=x0.Num then φ (x0.Str.toList==(⟨#[]⟩:ByteArray).toList)else φ false)else φ false))))):∃r,φ r/\C x0 r:=mEnt (fd:=Tryz.f78) (body:=B) (V:=W) (res:=res)<|mCon 12 h Aaj Aai (fun h=>mAsk 3 h Aaj Aai (fun h=>mRet 7 h) fun h=>mRet 7 h) fun h=>mCon 4 h Aaj Aai (fun h=>mRet 6 h) fun h=>mCon 4 h Aaj Aai (fun h=>mAsk 3 h Aaj Aai (fun h=>mRet 8 h) fun h=>mRet 8 h) fun h=>mCon 4 h Aaj Aai (fun h=>mAsk 3 h dT dF (fun h=>mRet 7 h) fun h=>mRet 7 h) fun h=>mRet 4 h
end q123_
namespace q36_
noncomputable def B:Code:=(Tryz.f77.body).getD .skip
def W:List Nat:=[0,1,2]
def res(r:Bool):D×List D:=(.lit (.bool r),[])
def C(x0:api_Value)(r:Bool):Prop:=Ret env 77 [.agg [.lit (.int .i64 x0.Kind),.lit (.int .i64 x0.Num),.lit (.string x0.Str)]] (res r).1 (res r).2
theorem enter(x0:api_Value)(φ:Bool->Prop)(h:∃r1:Bool,q123_.C x0 r1/\φ (not r1)):∃r,φ r/\C x0 r:=mEnt (fd:=Tryz.f77) (body:=B) (V:=W) (res:=res)<|mCal 6 h (fun _ h=>h) fun r1 _ h=>mRet 3 h
end q36_
namespace q4_
noncomputable def B:Code:=(Tryz.f96.body).getD .skip
def W:List Nat:=[0,1,4,5,7,8,9,16]
def res(r:Int):D×List D:=(.lit (.int .i64 r),[])
def C(x0:List api_Value)(r:Int):Prop:=Ret env 96 [.sl (x0.map Aa2),.fn 77 []] (res r).1 (res r).2
def L1(x0:List api_Value)(z0:Int)(φ:Int->Prop):Prop:=Pt env 96 W B [1,0,1,0] [(0,.sl (x0.map Aa2)),(1,.fn 77 []),(7,.lit (.int .i64 (x0.length:Int))),(8,.lit (.int .i64 z0))] (Lv env 96 Tryz.f96 2 res φ)
theorem L1_step(x0:List api_Value)(z0:Int)(φ:Int->Prop)(h:(if z0<(x0.length:Int)then ∃a1,lget x0 z0=some a1/\∃r3:Bool,q36_.C a1 r3/\(if r3=true then φ z0 else L1 x0 (IntKind.wrap .i64 (z0+1)) φ)else φ (-1))):L1 x0 z0 φ:=mIn<|mAsk 2 h dT dF (fun h=>mIx 11 Aa2 h fun a1 h2 h=>Aav 1 h (fun _ h=>h) (fun _ h=>mRet 6 h) fun _ h=>mFin 7 h) fun h=>mRet 6 h
theorem enter(x0:List api_Value)(φ:Int->Prop)(h:L1 x0 0 φ):∃r,φ r/\C x0 r:=mEnt (fd:=Tryz.f96) (body:=B) (V:=W) (res:=res)<|mLen 5 Aa2 x0<|mFin 2 h
end q4_
namespace q2_
noncomputable def B:Code:=(Tryz.f76.body).getD .skip
def W:List Nat:=[0,1,4]
def res(r:Bool):D×List D:=(.lit (.bool r),[])
def C(x0:List api_Value)(r:Bool):Prop:=Ret env 76 [.sl (x0.map Aa2),.fn 77 []] (res r).1 (res r).2
theorem enter(x0:List api_Value)(φ:Bool->Prop)(h:∃r1:Int,q4_.C x0 r1/\φ (decide (0<=r1))):∃r,φ r/\C x0 r:=mEnt (fd:=Tryz.f76) (body:=B) (V:=W) (res:=res)<|mCal 6 h (fun _ h=>h) fun r1 _ h=>mRet 3 h
end q2_
namespace q50_
noncomputable def B:Code:=(Tryz.f50.body).getD .skip
def W:List Nat:=[0,2]
def res(r:Bool):D×List D:=(.lit (.bool r),[])
def C(x0:List api_Value)(r:Bool):Prop:=Ret env 50 [.sl (x0.map Aa2)] (res r).1 (res r).2
theorem enter(x0:List api_Value)(φ:Bool->Prop)(h:∃r1:Bool,q2_.C x0 r1/\φ (not r1)):∃r,φ r/\C x0 r:=mEnt (fd:=Tryz.f50) (body:=B) (V:=W) (res:=res)<|mCal 5 h (fun _ h=>h) fun r1 _ h=>mRet 3 h
end q50_
namespace q124_
noncomputable def B:Code:=(Tryz.f28.body).getD .skip
def W:List Nat:=[0,1,2,3,4,5,7,11,21,23,24,25,26,40,43,44,45,46,49,54,62]
def res(r:Int):D×List D:=(.lit (.int .i64 r),[])
def C(x0:api_Table)(r:Int):Prop:=Ret env 28 [.agg [.lit (.string x0.Name),.sl (x0.Attrs.map eS),.sl (x0.Rows.map Aa5)]] (res r).1 (res r).2
def L1(x0:api_Table)(z0:Int)(φ:Int->Prop):Prop:=Pt env 28 W B [1,1,1,0,1,0] [(0,.agg [.lit (.string x0.Name),.sl (x0.Attrs.map eS),.sl (x0.Rows.map Aa5)]),(1,.box [.lit (.string x0.Name),.sl (x0.Attrs.map eS),.sl (x0.Rows.map Aa5)]),(23,.sl (x0.Attrs.map eS)),(24,.lit (.int .i64 (x0.Attrs.length:Int))),(25,.lit (.int .i64 z0))] (Lv env 28 Tryz.f28 1 res φ)
def L2(x0:api_Table)(z0 z1:Int)(φ:Int->Prop):Prop:=Pt env 28 W B [1,1,1,1,1,0,1,0] [(0,.agg [.lit (.string x0.Name),.sl (x0.Attrs.map eS),.sl (x0.Rows.map Aa5)]),(1,.box [.lit (.string x0.Name),.sl (x0.Attrs.map eS),.sl (x0.Rows.map Aa5)]),(5,.lit (.int .i64 z0)),(43,.sl (x0.Rows.map Aa5)),(44,.lit (.int .i64 (x0.Rows.length:Int))),(45,.lit (.int .i64 z1))] (Lv env 28 Tryz.f28 1 res φ)
theorem L1_step(x0:api_Table)(z0:Int)(φ:Int->Prop)(h:(if z0<(x0.Attrs.length:Int)then ∃a2,lget x0.Attrs z0=some a2/\∃r4:Bool,q120_.C a2 r4/\(if r4=true then 0<=z0/\(0<=z0.toNat/\z0.toNat<=x0.Attrs.length)/\∃r7:Bool,q20_.C (zB (z0.toNat-0) x0.Attrs) a2 r7/\(if r7=true then φ 1 else L1 x0 (IntKind.wrap .i64 (z0+1)) φ)else φ 1)else L2 x0 0 0 φ)):L1 x0 z0 φ:=mIn<|mAsk 2 h dT dF (fun h=>mIx 5 eS h fun a2 h3 h=>Aav 6 h (fun _ h=>h) (fun _ h=>h.elim fun h5 h=>h.elim fun h6 h=>mVl 5 (Ak9 (t:=29) (x:=(.tmp 35)) (lo:=none) (hi:=(some (.tmp 36))) (lo':=none) (hi':=some z0.toNat) (e:=eS) (l:=x0.Attrs) (et:=9) (k:=1) (by kernel_rfl) (by kernel_rfl) Ae9 (Aea (i:=z0) (q:=.i64) (by kernel_rfl) h5) (by kernel_rfl) (by kernel_rfl) (fun _=>rfl) (by kernel_rfl) h6.1 h6.2)<|Aav 1 h (fun _ h=>h) (fun _ h=>mRet 6 h) fun _ h=>mFin 8 h) fun _ h=>mRet 14 h) fun h=>mLen 9 Aa5 x0.Rows<|mFin 2 h
theorem L2_step(x0:api_Table)(z0 z1:Int)(φ:Int->Prop)(h:(if z1<(x0.Rows.length:Int)then ∃a8,lget x0.Rows z1=some a8/\(if a8.ID<=z0 then φ 1 else(if(a8.Values.length:Int)=(x0.Attrs.length:Int)then ∃r10:Bool,q50_.C a8.Values r10/\(if r10=true then L2 x0 a8.ID (IntKind.wrap .i64 (z1+1)) φ else φ 1)else φ 6))else φ 0)):L2 x0 z0 z1 φ:=mIn<|mAsk 2 h dT dF (fun h=>mIx 4 Aa5 h fun a8 h9 h=>mCon 11 h dT dF (fun h=>mRet 3 h) fun h=>mLen 3 Aa2 a8.Values<|mLen 2 eS x0.Attrs<|As8 3 h Abv Abu (fun h=>mRet 3 h) fun h=>mCal 3 h (fun _ h=>h) fun r10 _ h=>As8 3 h (fun h=>fls (Bgq h)) (fun h=>id (Bgp h)) (fun h=>mRet 3 h) fun h=>mFin 10 h) fun h=>mRet 6 h
theorem enter(x0:api_Table)(φ:Int->Prop)(h:∃r1:Bool,q120_.C x0.Name r1/\(if r1=true then(if 16<(x0.Attrs.length:Int)then φ 3 else(if 1000<(x0.Rows.length:Int)then φ 3 else L1 x0 0 φ))else φ 1)):∃r,φ r/\C x0 r:=mEnt (fd:=Tryz.f28) (body:=B) (V:=W) (res:=res)<|Aav 7 h (fun _ h=>h) (fun _ h=>mLen 7 eS x0.Attrs<|mAsk 0 h dT dF (fun h=>mRet 11 h) fun h=>mLen 3 Aa5 x0.Rows<|mAsk 0 h dT dF (fun h=>mRet 6 h) fun h=>mLen 7 eS x0.Attrs<|mFin 2 h) fun _ h=>mRet 6 h
end q124_
namespace q62_
noncomputable def B:Code:=(Tryz.f86.body).getD .skip
def W:List Nat:=[0,1,2,4,5,15,20]
def res(r:Bool):D×List D:=(.lit (.bool r),[])
def C(x0:api_Value)(r:Bool):Prop:=Ret env 86 [.agg [.lit (.int .i64 x0.Kind),.lit (.int .i64 x0.Num),.lit (.string x0.Str)]] (res r).1 (res r).2
theorem enter(x0:api_Value)(φ:Bool->Prop)(h:(if x0.Kind=0 then(if x0.Num=0 then φ (x0.Str.toList==(⟨#[]⟩:ByteArray).toList)else φ false)else(if x0.Kind=1 then φ (x0.Str.toList==(⟨#[]⟩:ByteArray).toList)else(if x0.Kind=2 then(if x0.Num=0 then φ (decide ((Ad5 x0.Str)<=200))else φ false)else(if x0.Kind=3 then(if 1<=x0.Num then φ (x0.Str.toList==(⟨#[]⟩:ByteArray).toList)else φ false)else φ false))))):∃r,φ r/\C x0 r:=mEnt (fd:=Tryz.f86) (body:=B) (V:=W) (res:=res)<|mCon 12 h Aaj Aai (fun h=>mAsk 3 h Aaj Aai (fun h=>mRet 7 h) fun h=>mRet 7 h) fun h=>mCon 4 h Aaj Aai (fun h=>mRet 6 h) fun h=>mCon 4 h Aaj Aai (fun h=>mAsk 3 h Aaj Aai (fun h=>mRet 8 h) fun h=>mRet 8 h) fun h=>mAsk 4 h Aaj Aai (fun h=>mAsk 3 h dT dF (fun h=>mRet 8 h) fun h=>mRet 8 h) fun h=>mRet 12 h
end q62_
namespace q51_
noncomputable def B:Code:=(Tryz.f62.body).getD .skip
def W:List Nat:=[0,2,3,7,15]
def res(r:Bool):D×List D:=(.lit (.bool r),[])
def C(x0:List api_Value)(r:Bool):Prop:=Ret env 62 [.sl (x0.map Aa2)] (res r).1 (res r).2
def L1(x0:List api_Value)(z0:Int)(φ:Bool->Prop):Prop:=Pt env 62 W B [1,0,1,0] [(0,.sl (x0.map Aa2)),(3,.lit (.int .i64 z0))] (Lv env 62 Tryz.f62 1 res φ)
theorem L1_step(x0:List api_Value)(z0:Int)(φ:Bool->Prop)(h:(if z0<(x0.length:Int)then ∃a1,lget x0 z0=some a1/\∃r3:Bool,q62_.C a1 r3/\(if r3=true then L1 x0 (IntKind.wrap .i64 (z0+1)) φ else φ false)else φ true)):L1 x0 z0 φ:=mIn<|mLen 4 Aa2 x0<|mAsk 0 h dT dF (fun h=>mIx 6 Aa2 h fun a1 h2 h=>Aav 1 h (fun _ h=>h) (fun _ h=>mFin 9 h) fun _ h=>mRet 6 h) fun h=>mRet 6 h
theorem enter(x0:List api_Value)(φ:Bool->Prop)(h:L1 x0 0 φ):∃r,φ r/\C x0 r:=mEnt (fd:=Tryz.f62) (body:=B) (V:=W) (res:=res)<|mFin 6 h
end q51_
namespace q52_
noncomputable def B:Code:=(Tryz.f84.body).getD .skip
def W:List Nat:=[0,2]
def res(r:Bool):D×List D:=(.lit (.bool r),[])
def C(x0:Int)(r:Bool):Prop:=Ret env 84 [.lit (.int .u8 x0)] (res r).1 (res r).2
theorem enter(x0:Int)(φ:Bool->Prop)(h:(if 97<=x0 then(if x0<=122 then φ true else(if 65<=x0 then(if x0<=90 then φ true else φ (x0==95))else φ (x0==95)))else(if 65<=x0 then(if x0<=90 then φ true else φ (x0==95))else φ (x0==95)))):∃r,φ r/\C x0 r:=mEnt (fd:=Tryz.f84) (body:=B) (V:=W) (res:=res)<|mAsk 5 h dT dF (fun h=>mAsk 2 h dT dF (fun h=>mRet 15 h) fun h=>mAsk 3 h dT dF (fun h=>mAsk 2 h dT dF (fun h=>mRet 8 h) fun h=>mRet 8 h) fun h=>mRet 11 h) fun h=>mAsk 6 h dT dF (fun h=>mAsk 2 h dT dF (fun h=>mRet 8 h) fun h=>mRet 8 h) fun h=>mRet 11 h
end q52_
namespace q84_
noncomputable def B:Code:=(Tryz.f60.body).getD .skip
def W:List Nat:=[0,2,3,21,25,44]
def res(r:Bool):D×List D:=(.lit (.bool r),[])
def C(x0:ByteArray)(r:Bool):Prop:=Ret env 60 [.lit (.string x0)] (res r).1 (res r).2
def L1(x0:ByteArray)(z0:Int)(φ:Bool->Prop):Prop:=Pt env 60 W B [1,1,0,1,0] [(0,.lit (.string x0)),(3,.lit (.int .i64 z0))] (Lv env 60 Tryz.f60 1 res φ)
def L2(x0:ByteArray)(z0:Int)(φ:Bool->Prop):Prop:=Pt env 60 W B [1,1,0,1,0,0,1,1] [(0,.lit (.string x0)),(3,.lit (.int .i64 z0))] (Lv env 60 Tryz.f60 1 res φ)
theorem L1_step(x0:ByteArray)(z0:Int)(φ:Bool->Prop)(h:(if z0<(Ad5 x0)then ∃b5,((0:Int)<=z0/\x0[z0.toNat]?=some b5)/\∃r8:Bool,q52_.C (u8i b5) r8/\(if r8=true then L2 x0 z0 φ else ∃b9,((0:Int)<=z0/\x0[z0.toNat]?=some b9)/\(if(u8i b9)<48 then φ false else ∃b12,((0:Int)<=z0/\x0[z0.toNat]?=some b12)/\(if 57<(u8i b12)then φ false else L2 x0 z0 φ)))else φ true)):L1 x0 z0 φ:=mIn<|mAsk 5 h dT dF (fun h=>mSt 6 h fun b5 h=>Aav 0 h (fun _ h=>h) (fun _ h=>mFin 16 h) fun _ h=>mSt 4 h fun b9 h=>mAsk 0 h dT dF (fun h=>mRet 12 h) fun h=>mSt 3 h fun b12 h=>mAsk 0 h dT dF (fun h=>mRet 7 h) fun h=>mFin 5 h) fun h=>mRet 6 h
theorem L2_step(x0:ByteArray)(z0:Int)(φ:Bool->Prop)(h:L1 x0 (IntKind.wrap .i64 (z0+1)) φ):L2 x0 z0 φ:=mIn<|mFin 5 h
theorem enter(x0:ByteArray)(φ:Bool->Prop)(h:(if(Ad5 x0)=0 then φ false else(if 24<(Ad5 x0)then φ false else ∃b1,((0:Int)<=0/\x0[(0:Int).toNat]?=some b1)/\∃r4:Bool,q52_.C (u8i b1) r4/\(if r4=true then(if x0.toList=(⟨#[110,117,108,108]⟩:ByteArray).toList then φ false else L1 x0 0 φ)else φ false)))):∃r,φ r/\C x0 r:=mEnt (fd:=Tryz.f60) (body:=B) (V:=W) (res:=res)<|mAsk 6 h Aaj Aai (fun h=>mRet 20 h) fun h=>mAsk 3 h dT dF (fun h=>mRet 16 h) fun h=>mSt 3 h fun b1 h=>Aav 0 h (fun _ h=>h) (fun _ h=>mAsk 4 h Ass Asr (fun h=>mRet 6 h) fun h=>mFin 7 h) fun _ h=>mRet 11 h
end q84_
namespace q85_
noncomputable def B:Code:=(Tryz.f85.body).getD .skip
def W:List Nat:=[0,1,4,5,9,17]
def res(r:Int):D×List D:=(.lit (.int .i64 r),[])
def C(x0:List ByteArray)(x1:ByteArray)(r:Int):Prop:=Ret env 85 [.sl (x0.map eS),.lit (.string x1)] (res r).1 (res r).2
def L1(x0:List ByteArray)(x1:ByteArray)(z0:Int)(φ:Int->Prop):Prop:=Pt env 85 W B [1,0,1,0] [(0,.sl (x0.map eS)),(1,.lit (.string x1)),(5,.lit (.int .i64 z0))] (Lv env 85 Tryz.f85 2 res φ)
theorem L1_step(x0:List ByteArray)(x1:ByteArray)(z0:Int)(φ:Int->Prop)(h:(if z0<(x0.length:Int)then ∃a1,lget x0 z0=some a1/\(if a1.toList=x1.toList then φ z0 else L1 x0 x1 (IntKind.wrap .i64 (z0+1)) φ)else φ (-1))):L1 x0 x1 z0 φ:=mIn<|mLen 4 eS x0<|mAsk 0 h dT dF (fun h=>mIx 6 eS h fun a1 h2 h=>mAsk 2 h Ass Asr (fun h=>mRet 6 h) fun h=>mFin 8 h) fun h=>mRet 6 h
theorem enter(x0:List ByteArray)(x1:ByteArray)(φ:Int->Prop)(h:L1 x0 x1 0 φ):∃r,φ r/\C x0 x1 r:=mEnt (fd:=Tryz.f85) (body:=B) (V:=W) (res:=res)<|mFin 6 h
end q85_
namespace q63_
noncomputable def B:Code:=(Tryz.f61.body).getD .skip
def W:List Nat:=[0,2,3,7,26]
def res(r:Bool):D×List D:=(.lit (.bool r),[])
def C(x0:List ByteArray)(r:Bool):Prop:=Ret env 61 [.sl (x0.map eS)] (res r).1 (res r).2
def L1(x0:List ByteArray)(z0:Int)(φ:Bool->Prop):Prop:=Pt env 61 W B [1,0,1,0] [(0,.sl (x0.map eS)),(3,.lit (.int .i64 z0))] (Lv env 61 Tryz.f61 1 res φ)
theorem L1_step(x0:List ByteArray)(z0:Int)(φ:Bool->Prop)(h:(if z0<(x0.length:Int)then ∃a1,lget x0 z0=some a1/\∃r3:Bool,q84_.C a1 r3/\(if r3=true then 0<=z0/\(0<=z0.toNat/\z0.toNat<=x0.length)/\∃r6:Int,q85_.C (zB (z0.toNat-0) x0) a1 r6/\(if 0<=r6 then φ false else L1 x0 (IntKind.wrap .i64 (z0+1)) φ)else φ false)else φ true)):L1 x0 z0 φ:=mIn<|mLen 4 eS x0<|mAsk 0 h dT dF (fun h=>mIx 6 eS h fun a1 h2 h=>Aav 1 h (fun _ h=>h) (fun _ h=>h.elim fun h4 h=>h.elim fun h5 h=>mVl 4 (Ak9 (t:=29) (x:=(.tmp 17)) (lo:=none) (hi:=(some (.tmp 18))) (lo':=none) (hi':=some z0.toNat) (e:=eS) (l:=x0) (et:=9) (k:=1) (by kernel_rfl) (by kernel_rfl) Ae9 (Aea (i:=z0) (q:=.i64) (by kernel_rfl) h4) (by kernel_rfl) (by kernel_rfl) (fun _=>rfl) (by kernel_rfl) h5.1 h5.2)<|mIxf 2 eS h2<|mCal 1 h (fun _ h=>h) fun r6 _ h=>mAsk 0 h dT dF (fun h=>mRet 6 h) fun h=>mFin 9 h) fun _ h=>mRet 17 h) fun h=>mRet 6 h
theorem enter(x0:List ByteArray)(φ:Bool->Prop)(h:L1 x0 0 φ):∃r,φ r/\C x0 r:=mEnt (fd:=Tryz.f61) (body:=B) (V:=W) (res:=res)<|mFin 6 h
end q63_
namespace q64_
noncomputable def B:Code:=(Tryz.f33.body).getD .skip
def W:List Nat:=[0,1,2,3,4,5,9,19,23,28,39,48,52]
def res(r:Int):D×List D:=(.lit (.int .i64 r),[])
def C(x0:api_Table)(r:Int):Prop:=Ret env 33 [.agg [.lit (.string x0.Name),.sl (x0.Attrs.map eS),.sl (x0.Rows.map Aa5)]] (res r).1 (res r).2
def L1(x0:api_Table)(z0 z1:Int)(φ:Int->Prop):Prop:=Pt env 33 W B [1,1,1,1,1,0,1,0] [(0,.agg [.lit (.string x0.Name),.sl (x0.Attrs.map eS),.sl (x0.Rows.map Aa5)]),(1,.box [.lit (.string x0.Name),.sl (x0.Attrs.map eS),.sl (x0.Rows.map Aa5)]),(3,.lit (.int .i64 z0)),(4,.lit (.int .i64 z1))] (Lv env 33 Tryz.f33 1 res φ)
theorem L1_step(x0:api_Table)(z0 z1:Int)(φ:Int->Prop)(h:(if z1<(x0.Rows.length:Int)then ∃a3,lget x0.Rows z1=some a3/\(if a3.ID<=z0 then φ 1 else(if(a3.Values.length:Int)=(x0.Attrs.length:Int)then ∃r5:Bool,q51_.C a3.Values r5/\(if r5=true then L1 x0 a3.ID (IntKind.wrap .i64 (z1+1)) φ else φ 1)else φ 6))else φ 0)):L1 x0 z0 z1 φ:=mIn<|mLen 5 Aa5 x0.Rows<|mAsk 0 h dT dF (fun h=>mIx 7 Aa5 h fun a3 h4 h=>mAsk 8 h dT dF (fun h=>mRet 5 h) fun h=>mLen 11 Aa2 a3.Values<|mLen 2 eS x0.Attrs<|Ac1 0 h Abv Abu (fun h=>mRet 5 h) fun h=>Aav 6 h (fun _ h=>h) (fun _ h=>mFin 9 h) fun _ h=>mRet 6 h) fun h=>mRet 6 h
theorem enter(x0:api_Table)(φ:Int->Prop)(h:∃r1:Bool,q84_.C x0.Name r1/\(if r1=true then(if 16<(x0.Attrs.length:Int)then φ 3 else(if 1000<(x0.Rows.length:Int)then φ 3 else ∃r2:Bool,q63_.C x0.Attrs r2/\(if r2=true then L1 x0 0 0 φ else φ 1)))else φ 1)):∃r,φ r/\C x0 r:=mEnt (fd:=Tryz.f33) (body:=B) (V:=W) (res:=res)<|Aav 7 h (fun _ h=>h) (fun _ h=>mLen 7 eS x0.Attrs<|mAsk 0 h dT dF (fun h=>mRet 11 h) fun h=>mLen 3 Aa5 x0.Rows<|mAsk 0 h dT dF (fun h=>mRet 6 h) fun h=>Aav 7 h (fun _ h=>h) (fun _ h=>mFin 10 h) fun _ h=>mRet 6 h) fun _ h=>mRet 6 h
end q64_
namespace q86_
noncomputable def B:Code:=(Tryz.f97.body).getD .skip
def W:List Nat:=[0,2,3,5]
def res(r:List Int):D×List D:=(.own (r.map (eI .i64)),[])
def C(x0:Int)(r:List Int):Prop:=Ret env 97 [.lit (.int .u32 x0)] (res r).1 (res r).2
def L1(x0:Int)(z0:List Int)(φ:List Int->Prop):Prop:=Pt env 97 W B [1,1,0,0] [(0,.lit (.int .u32 x0)),(3,.own (z0.map (eI .i64)))] (Lv env 97 Tryz.f97 1 res φ)
theorem L1_step(x0:Int)(z0:List Int)(φ:List Int->Prop)(h:(if x0=0 then φ z0 else(0<=x0/\x0<4294967296)/\(z0.length+1)*8<=140737488355328/\L1 (bAnd .u32 x0 (IntKind.wrap .u32 (x0-1))) (z0++[(tz32 x0)]) φ)):L1 x0 z0 φ:=mIn<|Ac1 3 h Abv Abu (fun h=>h.elim fun h1 h=>Aw3 6 (show Ret env 116 [.lit (.int .u32 x0)] (.lit (.int .i64 (tz32 x0))) []from Be4 (by kernel_rfl) h1)<|mApp 1 (eI .i64) z0 ([(tz32 x0)]) h fun h=>mFin 9 h) fun h=>mRet 7 h
theorem enter(x0:Int)(φ:List Int->Prop)(h:L1 x0 ([]) φ):∃r,φ r/\C x0 r:=mEnt (fd:=Tryz.f97) (body:=B) (V:=W) (res:=res)<|mFin 6 h
end q86_
namespace q106_
noncomputable def B:Code:=(Tryz.f69.body).getD .skip
def W:List Nat:=[0,1,4]
def res(r:Bool):D×List D:=(.lit (.bool r),[])
def C(x0 x1:Int)(r:Bool):Prop:=Ret env 69 [.lit (.int .u32 x0),.lit (.int .i64 x1)] (res r).1 (res r).2
theorem enter(x0 x1:Int)(φ:Bool->Prop)(h:(if 0<=x1 then(if x1<32 then 0<=x1/\φ ((bAnd .u32 (shrw .u32 x0 x1) 1)==1)else φ false)else φ false)):∃r,φ r/\C x0 x1 r:=mEnt (fd:=Tryz.f69) (body:=B) (V:=W) (res:=res)<|mAsk 5 h dT dF (fun h=>mAsk 2 h dT dF (fun h=>h.elim fun h1 h=>mBi 4 (Atd (t:=49) (q:=.u32) (q':=.i64) (i1:=x0) h1)<|mRet 5 h) fun h=>mRet 10 h) fun h=>mRet 13 h
end q106_
namespace q87_
noncomputable def B:Code:=(Tryz.f92.body).getD .skip
def W:List Nat:=[0,1,4,7,10]
def res(r:Int):D×List D:=(.lit (.int .i64 r),[])
def C(x0 x1 r:Int):Prop:=Ret env 92 [.lit (.int .i64 x0),.lit (.int .i64 x1)] (res r).1 (res r).2
theorem enter(x0 x1:Int)(φ:Int->Prop)(h:(if x0<x1 then φ (-1)else(if x1<x0 then φ 1 else φ 0))):∃r,φ r/\C x0 x1 r:=mEnt (fd:=Tryz.f92) (body:=B) (V:=W) (res:=res)<|mAsk 6 h dT dF (fun h=>mRet 5 h) fun h=>mAsk 6 h dT dF (fun h=>mRet 5 h) fun h=>mRet 6 h
end q87_
namespace q42_
noncomputable def B:Code:=(Tryz.f111.body).getD .skip
def W:List Nat:=[0,1,4,5,15,24]
def res(r:Int):D×List D:=(.lit (.int .i64 r),[])
def C(x0 x1:ByteArray)(r:Int):Prop:=Ret env 111 [.lit (.string x0),.lit (.string x1)] (res r).1 (res r).2
def L1(x0 x1:ByteArray)(z0:Int)(φ:Int->Prop):Prop:=Pt env 111 W B [1,0,1,0] [(0,.lit (.string x0)),(1,.lit (.string x1)),(5,.lit (.int .i64 z0))] (Lv env 111 Tryz.f111 2 res φ)
def L2(x0 x1:ByteArray)(φ:Int->Prop):Prop:=Pt env 111 W B [1,1,0] [(0,.lit (.string x0)),(1,.lit (.string x1))] (Lv env 111 Tryz.f111 2 res φ)
theorem L1_step(x0 x1:ByteArray)(z0:Int)(φ:Int->Prop)(h:(if z0<(Ad5 x0)then(if z0<(Ad5 x1)then ∃b1,((0:Int)<=z0/\x0[z0.toNat]?=some b1)/\∃b4,((0:Int)<=z0/\x1[z0.toNat]?=some b4)/\(if(u8i b1)=(u8i b4)then L1 x0 x1 (IntKind.wrap .i64 (z0+1)) φ else ∃b7,((0:Int)<=z0/\x0[z0.toNat]?=some b7)/\∃b10,((0:Int)<=z0/\x1[z0.toNat]?=some b10)/\∃r13:Int,q87_.C (IntKind.wrap .i64 (u8i b7)) (IntKind.wrap .i64 (u8i b10)) r13/\φ r13)else L2 x0 x1 φ)else L2 x0 x1 φ)):L1 x0 x1 z0 φ:=mIn<|mAsk 5 h dT dF (fun h=>mAsk 4 h dT dF (fun h=>mSt 7 h fun b1 h=>mSt 2 h fun b4 h=>Ac1 0 h Abv Abu (fun h=>mSt 5 h fun b7 h=>mSt 3 h fun b10 h=>mCal 1 h (fun _ h=>h) fun r13 _ h=>mRet 2 h) fun h=>mFin 8 h) fun h=>mFin 4 h) fun h=>mFin 9 h
theorem L2_step(x0 x1:ByteArray)(φ:Int->Prop)(h:∃r14:Int,q87_.C (Ad5 x0) (Ad5 x1) r14/\φ r14):L2 x0 x1 φ:=mIn<|mCal 5 h (fun _ h=>h) fun r14 _ h=>mRet 2 h
theorem enter(x0 x1:ByteArray)(φ:Int->Prop)(h:L1 x0 x1 0 φ):∃r,φ r/\C x0 x1 r:=mEnt (fd:=Tryz.f111) (body:=B) (V:=W) (res:=res)<|mFin 6 h
end q42_
namespace q43_
noncomputable def B:Code:=(Tryz.f91.body).getD .skip
def W:List Nat:=[0,1,2,3,4,5,6,13,21]
def res(r:Int):D×List D:=(.lit (.int .i64 r),[])
def C(x0 x1:api_Value)(r:Int):Prop:=Ret env 91 [.agg [.lit (.int .i64 x0.Kind),.lit (.int .i64 x0.Num),.lit (.string x0.Str)],.agg [.lit (.int .i64 x1.Kind),.lit (.int .i64 x1.Num),.lit (.string x1.Str)]] (res r).1 (res r).2
theorem enter(x0 x1:api_Value)(φ:Int->Prop)(h:∃r1:Int,q87_.C x0.Kind x1.Kind r1/\(if r1=0 then ∃r2:Int,q87_.C x0.Num x1.Num r2/\(if r2=0 then ∃r3:Int,q42_.C x0.Str x1.Str r3/\φ r3 else φ r2)else φ r1)):∃r,φ r/\C x0 x1 r:=mEnt (fd:=Tryz.f91) (body:=B) (V:=W) (res:=res)<|mCal 10 h (fun _ h=>h) fun r1 _ h=>Ac1 4 h Abv Abu (fun h=>mRet 6 h) fun h=>mCal 8 h (fun _ h=>h) fun r2 _ h=>Ac1 4 h Abv Abu (fun h=>mRet 6 h) fun h=>mCal 8 h (fun _ h=>h) fun r3 _ h=>mRet 2 h
end q43_
namespace q65_
noncomputable def B:Code:=(Tryz.f68.body).getD .skip
def W:List Nat:=[0,1,4,5,6,16,29]
def res(r:Int):D×List D:=(.lit (.int .i64 r),[])
def C(x0 x1:List api_Value)(r:Int):Prop:=Ret env 68 [.sl (x0.map Aa2),.sl (x1.map Aa2)] (res r).1 (res r).2
def L1(x0 x1:List api_Value)(z0:Int)(φ:Int->Prop):Prop:=Pt env 68 W B [1,0,1,0] [(0,.sl (x0.map Aa2)),(1,.sl (x1.map Aa2)),(5,.lit (.int .i64 z0))] (Lv env 68 Tryz.f68 2 res φ)
def L2(x0 x1:List api_Value)(φ:Int->Prop):Prop:=Pt env 68 W B [1,1,0] [(0,.sl (x0.map Aa2)),(1,.sl (x1.map Aa2))] (Lv env 68 Tryz.f68 2 res φ)
theorem L1_step(x0 x1:List api_Value)(z0:Int)(φ:Int->Prop)(h:(if z0<(x0.length:Int)then(if z0<(x1.length:Int)then ∃a1,lget x0 z0=some a1/\∃a3,lget x1 z0=some a3/\∃r5:Int,q43_.C a1 a3 r5/\(if r5=0 then L1 x0 x1 (IntKind.wrap .i64 (z0+1)) φ else φ r5)else L2 x0 x1 φ)else L2 x0 x1 φ)):L1 x0 x1 z0 φ:=mIn<|mLen 4 Aa2 x0<|mAsk 0 h dT dF (fun h=>mLen 3 Aa2 x1<|mAsk 0 h dT dF (fun h=>mIx 7 Aa2 h fun a1 h2 h=>mIx 3 Aa2 h fun a3 h4 h=>mCal 1 h (fun _ h=>h) fun r5 _ h=>Ac1 4 h Abv Abu (fun h=>mRet 6 h) fun h=>mFin 8 h) fun h=>mFin 4 h) fun h=>mFin 9 h
theorem L2_step(x0 x1:List api_Value)(φ:Int->Prop)(h:∃r6:Int,q87_.C (x0.length:Int) (x1.length:Int) r6/\φ r6):L2 x0 x1 φ:=mIn<|mLen 2 Aa2 x0<|mLen 1 Aa2 x1<|mCal 0 h (fun _ h=>h) fun r6 _ h=>mRet 2 h
theorem enter(x0 x1:List api_Value)(φ:Int->Prop)(h:L1 x0 x1 0 φ):∃r,φ r/\C x0 x1 r:=mEnt (fd:=Tryz.f68) (body:=B) (V:=W) (res:=res)<|mFin 6 h
end q65_
namespace q88_
noncomputable def B:Code:=(Tryz.f39.body).getD .skip
def W:List Nat:=[0,1,4]
def res(r:Bool):D×List D:=(.lit (.bool r),[])
def C(x0 x1:List api_Value)(r:Bool):Prop:=Ret env 39 [.sl (x0.map Aa2),.sl (x1.map Aa2)] (res r).1 (res r).2
theorem enter(x0 x1:List api_Value)(φ:Bool->Prop)(h:∃r1:Int,q65_.C x0 x1 r1/\φ (r1==0)):∃r,φ r/\C x0 x1 r:=mEnt (fd:=Tryz.f39) (body:=B) (V:=W) (res:=res)<|mCal 6 h (fun _ h=>h) fun r1 _ h=>mRet 3 h
end q88_
namespace q121_
noncomputable def B:Code:=(Tryz.f117.body).getD .skip
def W:List Nat:=[0,1,4,5,6,11]
def res(r:List Int):D×List D:=(.own (r.map (eI .u8)),[])
def C(x1:Int)(k0_0 r:List Int):Prop:=Ret env 117 [.own (k0_0.map (eI .u8)),.lit (.int .i64 x1)] (res r).1 (res r).2
def L1(k0_0:List Int)(z0 z1:Int)(φ:List Int->Prop):Prop:=Pt env 117 W B [1,1,0,1,0] [(0,.own (k0_0.map (eI .u8))),(5,.lit (.int .u64 z0)),(6,.lit (.int .i64 z1))] (Lv env 117 Tryz.f117 2 res φ)
theorem L1_step(k0_0:List Int)(z0 z1:Int)(φ:List Int->Prop)(h:(if 0<=z1 then 0<=z1/\(k0_0.length+1)*1<=140737488355328/\L1 (k0_0++[(IntKind.wrap .u8 (shrw .u64 z0 z1))]) z0 (IntKind.wrap .i64 (z1-8)) φ else φ k0_0)):L1 k0_0 z0 z1 φ:=mIn<|mAsk 3 h dT dF (fun h=>h.elim fun h1 h=>mBi 7 (Atd (t:=188) (q:=.u64) (q':=.i64) (i1:=z0) h1)<|mApp 2 (eI .u8) k0_0 ([(IntKind.wrap .u8 (shrw .u64 z0 z1))]) h fun h=>mFin 7 h) fun h=>mRet 7 h
theorem enter(x1:Int)(k0_0:List Int)(φ:List Int->Prop)(h:L1 k0_0 (bXor .u64 (IntKind.wrap .u64 x1) 9223372036854775808) 56 φ):∃r,φ r/\C x1 k0_0 r:=mEnt (fd:=Tryz.f117) (body:=B) (V:=W) (res:=res)<|mFin 12 h
end q121_
namespace q126_
noncomputable def B:Code:=(Tryz.f98.body).getD .skip
def W:List Nat:=[0,1,2,3,4,5,8,14,15,22,26,27,28,41]
def res(r:ByteArray×Int):D×List D:=(.tup [.lit (.string r.1),.lit (.int .i64 r.2)],[])
def C(x0:api_Value)(r:ByteArray×Int):Prop:=Ret env 98 [.agg [.lit (.int .i64 x0.Kind),.lit (.int .i64 x0.Num),.lit (.string x0.Str)]] (res r).1 (res r).2
def L2(x0:api_Value)(z0:Bool)(φ:ByteArray×Int->Prop):Prop:=Pt env 98 W B [1,1,1,0,1,0,1,0] [(0,.agg [.lit (.int .i64 x0.Kind),.lit (.int .i64 x0.Num),.lit (.string x0.Str)]),(1,.box [.lit (.int .i64 x0.Kind),.lit (.int .i64 x0.Num),.lit (.string x0.Str)]),(4,.own (([(IntKind.wrap .u8 x0.Kind)]).map (eI .u8))),(14,.lit (.int .i64 x0.Kind)),(15,.lit (.bool z0))] (Lv env 98 Tryz.f98 1 res φ)
def L3(x0:api_Value)(φ:ByteArray×Int->Prop):Prop:=Pt env 98 W B [1,1,1,0,1,0,1,1,0] [(0,.agg [.lit (.int .i64 x0.Kind),.lit (.int .i64 x0.Num),.lit (.string x0.Str)]),(1,.box [.lit (.int .i64 x0.Kind),.lit (.int .i64 x0.Num),.lit (.string x0.Str)]),(4,.own (([(IntKind.wrap .u8 x0.Kind)]).map (eI .u8))),(14,.lit (.int .i64 x0.Kind))] (Lv env 98 Tryz.f98 1 res φ)
def L1(x0:api_Value)(z0:List Int)(z1:Int)(φ:ByteArray×Int->Prop):Prop:=Pt env 98 W B [1,1,1,0,1,0,1,1,1,0,0,1,0] [(0,.agg [.lit (.int .i64 x0.Kind),.lit (.int .i64 x0.Num),.lit (.string x0.Str)]),(1,.box [.lit (.int .i64 x0.Kind),.lit (.int .i64 x0.Num),.lit (.string x0.Str)]),(4,.own (z0.map (eI .u8))),(26,.lit (.int .i64 (Ad5 x0.Str))),(27,.lit (.int .i64 z1))] (Lv env 98 Tryz.f98 1 res φ)
def L4(x0:api_Value)(z0:List Int)(z1:Int)(φ:ByteArray×Int->Prop):Prop:=Pt env 98 W B [1,1,1,0,1,0,1,1,1,0,0,1,0,0,1,1,1] [(0,.agg [.lit (.int .i64 x0.Kind),.lit (.int .i64 x0.Num),.lit (.string x0.Str)]),(1,.box [.lit (.int .i64 x0.Kind),.lit (.int .i64 x0.Num),.lit (.string x0.Str)]),(4,.own (z0.map (eI .u8))),(26,.lit (.int .i64 (Ad5 x0.Str))),(27,.lit (.int .i64 z1))] (Lv env 98 Tryz.f98 1 res φ)
theorem L2_step(x0:api_Value)(z0:Bool)(φ:ByteArray×Int->Prop)(h:∃r2:List Int,q121_.C x0.Num ([(IntKind.wrap .u8 x0.Kind)]) r2/\(∀x∈r2,0<=x/\x<256)/\φ ((Ake r2),0)):L2 x0 z0 φ:=mIn<|mCal 4 h (fun _ h=>h) (hf:=(fun _=>Aah (Aam (e:=(eI .u8)) (fun _=>rfl)) rfl)) fun r2 _ h=>h.elim fun h3 h=>mVl 4 (Aoh (s:=26) (t:=9) (et:=5) (x:=(.tmp 49)) (d:=.alias 4 []) (l:=r2) (by kernel_rfl) (by kernel_rfl) (Afx (by kernel_rfl)) (by kernel_rfl) (by kernel_rfl) (by kernel_rfl) h3)<|mRet 3 h
theorem L3_step(x0:api_Value)(φ:ByteArray×Int->Prop)(h:(if x0.Kind=2 then L1 x0 ([(IntKind.wrap .u8 x0.Kind)]) 0 φ else(∀x∈([(IntKind.wrap .u8 x0.Kind)]),0<=x/\x<256)/\φ ((Ake [(IntKind.wrap .u8 x0.Kind)]),0))):L3 x0 φ:=mIn<|mCon 4 h Aaj Aai (fun h=>mFin 6 h) fun h=>h.elim fun h4 h=>mVl 3 (Aoh (s:=26) (t:=9) (et:=5) (x:=(.tmp 49)) (d:=.alias 4 []) (l:=[(IntKind.wrap .u8 x0.Kind)]) (by kernel_rfl) (by kernel_rfl) (Afx (by kernel_rfl)) (by kernel_rfl) (by kernel_rfl) (by kernel_rfl) h4)<|mRet 3 h
theorem L1_step(x0:api_Value)(z0:List Int)(z1:Int)(φ:ByteArray×Int->Prop)(h:(if z1<(Ad5 x0.Str)then ∃b5,((0:Int)<=z1/\x0.Str[z1.toNat]?=some b5)/\(z0.length+1)*1<=140737488355328/\∃b9,((0:Int)<=z1/\x0.Str[z1.toNat]?=some b9)/\(if(u8i b9)=0 then((z0++[(u8i b5)]).length+1)*1<=140737488355328/\L4 x0 ((z0++[(u8i b5)])++[255]) z1 φ else L4 x0 (z0++[(u8i b5)]) z1 φ)else(z0.length+2)*1<=140737488355328/\(∀x∈(z0++[0,1]),0<=x/\x<256)/\φ ((Ake (z0++[0,1])),0))):L1 x0 z0 z1 φ:=mIn<|mAsk 2 h dT dF (fun h=>mSt 12 h fun b5 h=>mApp 1 (eI .u8) z0 ([(u8i b5)]) h fun h=>mSt 6 h fun b9 h=>mAsk 0 h Aaj Aai (fun h=>mApp 5 (eI .u8) (z0++[(u8i b5)]) ([255]) h fun h=>mFin 2 h) fun h=>mFin 3 h) fun h=>mApp 6 (eI .u8) z0 ([0,1]) h fun h=>h.elim fun h14 h=>mVl 4 (Aoh (s:=26) (t:=9) (et:=5) (x:=(.tmp 49)) (d:=.alias 4 []) (l:=(z0++[0,1])) (by kernel_rfl) (by kernel_rfl) (Afx (by kernel_rfl)) (by kernel_rfl) (by kernel_rfl) (by kernel_rfl) h14)<|mRet 3 h
theorem L4_step(x0:api_Value)(z0:List Int)(z1:Int)(φ:ByteArray×Int->Prop)(h:L1 x0 z0 (IntKind.wrap .i64 (z1+1)) φ):L4 x0 z0 z1 φ:=mIn<|mFin 4 h
theorem enter(x0:api_Value)(φ:ByteArray×Int->Prop)(h:∃r1:Bool,q123_.C x0 r1/\(if r1=true then(if x0.Kind=1 then(if x0.Kind=1 then L2 x0 (x0.Kind==1) φ else L3 x0 φ)else(if x0.Kind=3 then L2 x0 (x0.Kind==3) φ else L3 x0 φ))else φ ((⟨#[]⟩:ByteArray),1))):∃r,φ r/\C x0 r:=mEnt (fd:=Tryz.f98) (body:=B) (V:=W) (res:=res)<|Aav 7 h (fun _ h=>h) (fun _ h=>mCon 19 h Aaj Aai (fun h=>mCon 1 h Aaj Aai (fun h=>mFin 0 h) fun h=>mFin 0 h) fun h=>mCon 4 h Aaj Aai (fun h=>mFin 0 h) fun h=>mFin 0 h) fun _ h=>mRet 7 h
end q126_
namespace q53_
noncomputable def B:Code:=(Tryz.f42.body).getD .skip
def W:List Nat:=[0,1,2,4,5,6,11,16]
def res(r:List api_Value):D×List D:=(.own (r.map Aa2),[])
def C(x0:api_Row)(x1:Int)(r:List api_Value):Prop:=Ret env 42 [.agg [.lit (.int .i64 x0.ID),.sl (x0.Values.map Aa2)],.lit (.int .u32 x1)] (res r).1 (res r).2
def L1(x0:api_Row)(x1:Int)(z0:List api_Value)(z1:Int)(φ:List api_Value->Prop):Prop:=Pt env 42 W B [1,1,0,1,0] [(0,.agg [.lit (.int .i64 x0.ID),.sl (x0.Values.map Aa2)]),(1,.lit (.int .u32 x1)),(2,.box [.lit (.int .i64 x0.ID),.sl (x0.Values.map Aa2)]),(5,.own (z0.map Aa2)),(6,.lit (.int .i64 z1))] (Lv env 42 Tryz.f42 2 res φ)
def L2(x0:api_Row)(x1:Int)(z0:List api_Value)(z1:Int)(φ:List api_Value->Prop):Prop:=Pt env 42 W B [1,1,0,1,0,0,1,1] [(0,.agg [.lit (.int .i64 x0.ID),.sl (x0.Values.map Aa2)]),(1,.lit (.int .u32 x1)),(2,.box [.lit (.int .i64 x0.ID),.sl (x0.Values.map Aa2)]),(5,.own (z0.map Aa2)),(6,.lit (.int .i64 z1))] (Lv env 42 Tryz.f42 2 res φ)
theorem L1_step(x0:api_Row)(x1:Int)(z0:List api_Value)(z1:Int)(φ:List api_Value->Prop)(h:(if z1<(x0.Values.length:Int)then ∃r1:Bool,q106_.C x1 z1 r1/\(if r1=true then ∃a2,lget x0.Values z1=some a2/\(z0.length+1)*32<=140737488355328/\L2 x0 x1 (z0++[a2]) z1 φ else L2 x0 x1 z0 z1 φ)else φ z0)):L1 x0 x1 z0 z1 φ:=mIn<|mLen 5 Aa2 x0.Values<|mAsk 0 h dT dF (fun h=>Aav 6 h (fun _ h=>h) (fun _ h=>mIx 7 Aa2 h fun a2 h3 h=>mApp 2 Aa2 z0 ([a2]) h fun h=>mFin 2 h) fun _ h=>mFin 3 h) fun h=>mRet 7 h
theorem L2_step(x0:api_Row)(x1:Int)(z0:List api_Value)(z1:Int)(φ:List api_Value->Prop)(h:L1 x0 x1 z0 (IntKind.wrap .i64 (z1+1)) φ):L2 x0 x1 z0 z1 φ:=mIn<|mFin 5 h
theorem enter(x0:api_Row)(x1:Int)(φ:List api_Value->Prop)(h:L1 x0 x1 ([]) 0 φ):∃r,φ r/\C x0 x1 r:=mEnt (fd:=Tryz.f42) (body:=B) (V:=W) (res:=res)<|mFin 10 h
end q53_
namespace q66_
noncomputable def B:Code:=(Tryz.f19.body).getD .skip
def W:List Nat:=[0,1,2,3,4,6]
def res(r:Bool):D×List D:=(.lit (.bool r),[])
def C(x0 x1:api_Row)(x2:Int)(r:Bool):Prop:=Ret env 19 [.agg [.lit (.int .i64 x0.ID),.sl (x0.Values.map Aa2)],.agg [.lit (.int .i64 x1.ID),.sl (x1.Values.map Aa2)],.lit (.int .u32 x2)] (res r).1 (res r).2
theorem enter(x0 x1:api_Row)(x2:Int)(φ:Bool->Prop)(h:∃r1:List api_Value,q53_.C x0 x2 r1/\∃r2:List api_Value,q53_.C x1 x2 r2/\∃r3:Bool,q88_.C r1 r2 r3/\φ r3):∃r,φ r/\C x0 x1 x2 r:=mEnt (fd:=Tryz.f19) (body:=B) (V:=W) (res:=res)<|mLo 8 h (fun _ h=>h) (hf:=(fun _=>Axl (Aam (e:=Aa2) (fun _=>rfl)))) fun r1 _ h=>mCal 2 h (fun _ h=>h) (hf:=(fun _=>Aah (Aam (e:=Aa2) (fun _=>rfl)) rfl)) fun r2 _ h=>mCal 0 h (fun _ h=>h) (hr:=by exact(Abk (Abr (s:=9) (ps:=[]) (l:=r1) (e:=Aa2) (e':=Aa2) (fun _=>rfl) (by kernel_rfl)) (Abk (Abr (s:=12) (ps:=[]) (l:=r2) (e:=Aa2) (e':=Aa2) (fun _=>rfl) (by kernel_rfl)) Ace))) fun r3 _ h=>mRet 2 h
end q66_
namespace q111_
noncomputable def B:Code:=(Tryz.f79.body).getD .skip
def W:List Nat:=[0,1,2,4,5,7,8,9,11,12,13,14]
def res(r:ByteArray):D×List D:=(.lit (.string r),[])
def C(x0:api_Row)(x1:Int)(r:ByteArray):Prop:=Ret env 79 [.agg [.lit (.int .i64 x0.ID),.sl (x0.Values.map Aa2)],.lit (.int .u32 x1)] (res r).1 (res r).2
def L1(x0:api_Row)(z0:List UInt8)(r1:List Int)(z1:Int)(φ:ByteArray->Prop):Prop:=Pt env 79 W B [1,1,0,1,0] [(0,.agg [.lit (.int .i64 x0.ID),.sl (x0.Values.map Aa2)]),(2,.box [.lit (.int .i64 x0.ID),.sl (x0.Values.map Aa2)]),(5,.bld 154 5 z0),(11,.own (r1.map (eI .i64))),(12,.lit (.int .i64 (r1.length:Int))),(13,.lit (.int .i64 z1))] (Lv env 79 Tryz.f79 2 res φ)
theorem L1_step(x0:api_Row)(z0:List UInt8)(r1:List Int)(z1:Int)(φ:ByteArray->Prop)(h:(if z1<(r1.length:Int)then ∃a2,lget r1 z1=some a2/\∃a4,lget x0.Values a2=some a4/\∃r6:ByteArray×Int,q126_.C a4 r6/\z0.length+r6.1.size<=140737488355328/\L1 x0 (z0++r6.1.data.toList) r1 (IntKind.wrap .i64 (z1+1)) φ else φ (bstr z0))):L1 x0 z0 r1 z1 φ:=mIn<|mAsk 2 h dT dF (fun h=>mIy 4 (eI .i64) h fun a2 h3 h=>mLd 0 (eI .i64) h3<|mIx 6 Aa2 h fun a4 h5 h=>mCal 1 h (fun _ h=>h) (hf:=(fun _=>Aah (Ach (Aa7 rfl (Aa7 rfl Aax))) rfl)) fun r6 _ h=>h.elim fun h7 h=>Aw3 8 (show Ret env 99 [.bld 154 5 z0,.lit (.string r6.1)] (.tup [.lit (.int .i64 (Ad5 r6.1)),.lit .nilIface]) [.bld 154 5 (z0++r6.1.data.toList)]from Be3 (by kernel_rfl) h7) (hf:=(Ae5))<|mFin 5 h) fun h=>Aw3 4 (show Ret env 100 [.bld 154 5 z0] (.lit (.string (bstr z0))) [.box [.undef,.undef]]from Bbo (by kernel_rfl))<|mRet 2 h
theorem enter(x0:api_Row)(x1:Int)(φ:ByteArray->Prop)(h:∃r1:List Int,q86_.C x1 r1/\L1 x0 ([]) r1 0 φ):∃r,φ r/\C x0 x1 r:=mEnt (fd:=Tryz.f79) (body:=B) (V:=W) (res:=res)<|mCal 9 h (fun _ h=>h) (hf:=(fun _=>Aah (Aam (e:=(eI .i64)) (fun _=>rfl)) rfl)) fun r1 _ h=>mLen 0 (eI .i64) r1<|mFin 2 h
end q111_
namespace q67_
noncomputable def B:Code:=(Tryz.f53.body).getD .skip
def W:List Nat:=[0,1,4,5,6,8,9,10,11,13,14,15,16,30]
def res(r:List (List tractable_entry)):D×List D:=(.own (r.map (eOw Aa3)),[])
def C(x0:List tractable_entry)(x1:Int)(r:List (List tractable_entry)):Prop:=Ret env 53 [.sl (x0.map Aa3),.lit (.int .u32 x1)] (res r).1 (res r).2
def L1(x0:List tractable_entry)(x1:Int)(z0:List (ByteArray×Int))(z1:List (List tractable_entry))(z2:Int)(φ:List (List tractable_entry)->Prop):Prop:=Pt env 53 W B [1,1,1,0,1,0] [(0,.sl (x0.map Aa3)),(1,.lit (.int .u32 x1)),(5,(eMap Value.string (fun(x:Int)=>D.lit (.int .i64 x)) z0)),(6,.own (z1.map (eOw Aa3))),(13,.sl (x0.map Aa3)),(14,.lit (.int .i64 (x0.length:Int))),(15,.lit (.int .i64 z2))] (Lv env 53 Tryz.f53 2 res φ)
def L2(x0:List tractable_entry)(x1:Int)(z0:List (ByteArray×Int))(z1:List (List tractable_entry))(a1:tractable_entry)(z2 z3:Int)(φ:List (List tractable_entry)->Prop):Prop:=Pt env 53 W B [1,1,1,0,1,0,0,1,1,0,0,1,1,1,1] [(0,.sl (x0.map Aa3)),(1,.lit (.int .u32 x1)),(5,(eMap Value.string (fun(x:Int)=>D.lit (.int .i64 x)) z0)),(6,.own (z1.map (eOw Aa3))),(8,.box [.lit (.int .i64 a1.row.ID),.sl (a1.row.Values.map Aa2),.lit (.int .i64 a1.weight)]),(10,.lit (.int .i64 z2)),(13,.sl (x0.map Aa3)),(14,.lit (.int .i64 (x0.length:Int))),(15,.lit (.int .i64 z3))] (Lv env 53 Tryz.f53 2 res φ)
theorem L1_step(x0:List tractable_entry)(x1:Int)(z0:List (ByteArray×Int))(z1:List (List tractable_entry))(z2:Int)(φ:List (List tractable_entry)->Prop)(h:(if z2<(x0.length:Int)then ∃a1,lget x0 z2=some a1/\∃r3:ByteArray,q111_.C a1.row x1 r3/\(if(mhas r3 z0)=true then L2 x0 x1 z0 z1 a1 (Asa r3 z0 0) z2 φ else(z1.length+1)*24<=140737488355328/\L2 x0 x1 (mset r3 (z1.length:Int) z0) (z1++[[]]) a1 (z1.length:Int) z2 φ)else φ z1)):L1 x0 x1 z0 z1 z2 φ:=mIn<|mAsk 2 h dT dF (fun h=>mIx 4 Aa3 h fun a1 h2 h=>mCal 8 h (fun _ h=>h) fun r3 _ h=>mVl 5 (Aog Ary (fun _=>by kernel_rfl) (ek:=Value.string) (ev:=(fun(x:Int)=>D.lit (.int .i64 x))) (t:=135) (x:=(.tmp 24)) (kx:=(.tmp 25)) (s:=5) (ps:=[]) (l:=z0) (kd:=.lit (.string r3)) (kv:=r3) (kt:=9) (vt:=3) (v0:=0) (by kernel_rfl) (by kernel_rfl) (by kernel_rfl) (by kernel_rfl) (by kernel_rfl) (by kernel_rfl) (by kernel_rfl) (by kernel_rfl))<|mAsk 7 h id fls (fun h=>mFin 4 h) fun h=>mLen 5 (eOw Aa3) z1<|mOp 6 (Ao0 Ary (fun _=>by kernel_rfl) (ek:=Value.string) (ev:=(fun(x:Int)=>D.lit (.int .i64 x))) (t:=135) (mx:=(.tmp 33)) (kx:=(.tmp 34)) (vx:=(.tmp 35)) (s:=5) (ps:=[]) (l:=z0) (kd:=.lit (.string r3)) (kv:=r3) (kt:=9) (vt:=3) (v:=(z1.length:Int)) (d:=.lit (.int .i64 (z1.length:Int))) (by kernel_rfl) (by kernel_rfl) (by kernel_rfl) (by kernel_rfl) (by kernel_rfl) (by kernel_rfl) (by kernel_rfl) (by kernel_rfl) (by kernel_rfl) (Ajk (by kernel_rfl))) <|
 mApp 4 (eOw Aa3) z1 ([[]]) h fun h=>mFin 2 h) fun h=>mRet 7 h
theorem L2_step(x0:List tractable_entry)(x1:Int)(z0:List (ByteArray×Int))(z1:List (List tractable_entry))(a1:tractable_entry)(z2 z3:Int)(φ:List (List tractable_entry)->Prop)(h:∃a5,lget z1 z2=some a5/\(a5.length+1)*40<=140737488355328/\L1 x0 x1 z0 (lset z1 z2 (a5++[a1])) (IntKind.wrap .i64 (z3+1)) φ):L2 x0 x1 z0 z1 a1 z2 z3 φ:=mIn<|mIy 5 (eOw Aa3) h fun a5 h6 h=>mLd 0 (eOw Aa3) h6<|h.elim fun h7 h=>Bnb 2 (app2 (x:=(.tmp 44)) (y:=(.tmp 46)) (t:=80) (u:=80) (et:=82) (z:=.agg [.lit (.int .i64 0),.own [],.lit (.int .i64 0)]) (k:=3) (c:=40) (e:=Aa3) (l:=a5) (m:=[a1]) (by kernel_rfl) (by kernel_rfl) (by kernel_rfl) (by kernel_rfl) (by kernel_rfl) (Bjk (s:=6) (ps:=[]) (n:=(z2.toNat)) (c:=0) (e:=(eOw Aa3)) (l:=z1) (a:=a5) (by kernel_rfl) (by kernel_rfl) (Abz h6).2 (by kernel_rfl) (by kernel_rfl) (Ajk (by kernel_rfl))) (by kernel_rfl) (by kernel_rfl) (by kernel_rfl) (by kernel_rfl) (by kernel_rfl) (fun _=>rfl) h7)<|mVl 0 (Aye (s:=6) (ps:=[]) (cs:=[.undef]) (t:=111) (x:=(.tmp 39)) (ix:=(.tmp 40)) (et:=80) (k:=1) (e:=(eOw Aa3)) (l:=z1) (i:=z2) (q:=.i64) (a:=a5) (by kernel_rfl) (by kernel_rfl) (by kernel_rfl) (by kernel_rfl) (by kernel_rfl) (by kernel_rfl) h6 (by kernel_rfl))<|mOp 0 (Bms (t:=80) (x:=(.tmp 48)) (y:=(.tmp 47)) (s:=6) (ps:=[]) (n:=(z2.toNat)) (e:=(eOw Aa3)) (l:=z1) (a:=a5) (b:=(a5++[a1])) (k:=1) (cs:=[.undef]) (d:=.own ((a5++[a1]).map Aa3)) (by kernel_rfl) (by kernel_rfl) (by kernel_rfl) (by kernel_rfl) (Abz h6).2 (by kernel_rfl) (by kernel_rfl) (by kernel_rfl) (by kernel_rfl) (by kernel_rfl) (Ajk (by kernel_rfl))) <|
 mFin 5 h
theorem enter(x0:List tractable_entry)(x1:Int)(φ:List (List tractable_entry)->Prop)(h:L1 x0 x1 ([]) ([]) 0 φ):∃r,φ r/\C x0 x1 r:=mEnt (fd:=Tryz.f53) (body:=B) (V:=W) (res:=res)<|mLen 12 Aa3 x0<|mFin 2 h
end q67_
namespace q37_
noncomputable def B:Code:=(Tryz.f104.body).getD .skip
def W:List Nat:=[0,1,4,5,7,8,9,10,11,12,13,14,22,23,24,25]
def res(r:List (List Int)):D×List D:=(.own (r.map (eOw (eI .i64))),[])
def C(x0:List (List Int))(x1:Int)(r:List (List Int)):Prop:=Ret env 104 [.sl (x0.map (eSl (eI .i64))),.lit (.int .i64 x1)] (res r).1 (res r).2
def L1(x0:List (List Int))(x1:Int)(z0:List (List Int))(z1:Int)(φ:List (List Int)->Prop):Prop:=Pt env 104 W B [1,1,0,1,0] [(0,.sl (x0.map (eSl (eI .i64)))),(1,.lit (.int .i64 x1)),(5,.own (z0.map (eOw (eI .i64)))),(11,.sl (x0.map (eSl (eI .i64)))),(12,.lit (.int .i64 (x0.length:Int))),(13,.lit (.int .i64 z1))] (Lv env 104 Tryz.f104 2 res φ)
def L2(x0:List (List Int))(x1:Int)(z0:List (List Int))(a1 z1:List Int)(z2 z3:Int)(φ:List (List Int)->Prop):Prop:=Pt env 104 W B [1,1,0,1,0,0,1,1,0,0,1,1,0,1,0] [(0,.sl (x0.map (eSl (eI .i64)))),(1,.lit (.int .i64 x1)),(5,.own (z0.map (eOw (eI .i64)))),(7,.sl (a1.map (eI .i64))),(8,.own (z1.map (eI .i64))),(11,.sl (x0.map (eSl (eI .i64)))),(12,.lit (.int .i64 (x0.length:Int))),(13,.lit (.int .i64 z2)),(22,.sl (a1.map (eI .i64))),(23,.lit (.int .i64 (a1.length:Int))),(24,.lit (.int .i64 z3))] (Lv env 104 Tryz.f104 2 res φ)
theorem L1_step(x0:List (List Int))(x1:Int)(z0:List (List Int))(z1:Int)(φ:List (List Int)->Prop)(h:(if z1<(x0.length:Int)then ∃a1,lget x0 z1=some a1/\(0<=(IntKind.wrap .i64 ((a1.length:Int)+x1))/\(IntKind.wrap .i64 ((a1.length:Int)+x1))*8<=281474976710656)/\L2 x0 x1 z0 a1 (zA (IntKind.wrap .i64 ((a1.length:Int)+x1)).toNat (0:Int)) z1 0 φ else φ z0)):L1 x0 x1 z0 z1 φ:=mIn<|mAsk 2 h dT dF (fun h=>mIx 4 (eSl (eI .i64)) h fun a1 h2 h=>mLen 5 (eI .i64) a1<|h.elim fun h3 h=>mVl 2 (Ad9 (t:=34) (x:=(.tmp 20)) (y:=(.tmp 20)) (q:=.i64) (i:=(IntKind.wrap .i64 ((a1.length:Int)+x1))) (et:=2) (z:=.lit (.int .i64 0)) (e:=(eI .i64)) (a:=(0:Int)) (k:=8) (by kernel_rfl) (by kernel_rfl) (by kernel_rfl) (by kernel_rfl) (by kernel_rfl) (by kernel_rfl) (by kernel_rfl) (by kernel_rfl) (by kernel_rfl) (by kernel_rfl) h3.1 h3.2)<|mLen 4 (eI .i64) a1<|mFin 2 h) fun h=>mRet 7 h
theorem L2_step(x0:List (List Int))(x1:Int)(z0:List (List Int))(a1 z1:List Int)(z2 z3:Int)(φ:List (List Int)->Prop)(h:(if z3<(a1.length:Int)then ∃a4,lget a1 z3=some a4/\∃a6,lget z1 z3=some a6/\L2 x0 x1 z0 a1 (lset z1 z3 (IntKind.wrap .i64 (0-a4))) z2 (IntKind.wrap .i64 (z3+1)) φ else(z0.length+1)*24<=140737488355328/\L1 x0 x1 (z0++[z1]) (IntKind.wrap .i64 (z2+1)) φ)):L2 x0 x1 z0 a1 z1 z2 z3 φ:=mIn<|mAsk 2 h dT dF (fun h=>mIx 5 (eI .i64) h fun a4 h5 h=>mIy 9 (eI .i64) h fun a6 h7 h=>mSto 0 (eI .i64) (IntKind.wrap .i64 (0-a4)) h7<|mFin 5 h) fun h=>mApp 7 (eOw (eI .i64)) z0 ([z1]) h fun h=>mFin 6 h
theorem enter(x0:List (List Int))(x1:Int)(φ:List (List Int)->Prop)(h:L1 x0 x1 ([]) 0 φ):∃r,φ r/\C x0 x1 r:=mEnt (fd:=Tryz.f104) (body:=B) (V:=W) (res:=res)<|mLen 8 (eSl (eI .i64)) x0<|mFin 2 h
end q37_
namespace q30_
noncomputable def B:Code:=(Tryz.f123.body).getD .skip
def W:List Nat:=[0,1,2,6,7,8,9,10,11,12,13,14,15,16,25,26,27,48,59,60,61,66,98,112,120,121,122,124,155,170,1000000]
def res(r:assignment_solver):D×List D:=(.tup [],[.box [.sl (r.cost.map (eSl (eI .i64))),.own (r.u.map (eI .i64)),.own (r.v.map (eI .i64)),.own (r.row.map (eI .i64))]])
def C(x1 x2:Int)(k0_0:List (List Int))(k0_1 k0_2 k0_3:List Int)(r:assignment_solver):Prop:=Ret env 123 [.box [.sl (k0_0.map (eSl (eI .i64))),.own (k0_1.map (eI .i64)),.own (k0_2.map (eI .i64)),.own (k0_3.map (eI .i64))],.lit (.int .i64 x1),.lit (.int .i64 x2)] (res r).1 (res r).2
def L1(x1 x2:Int)(z0:List Int)(z1:Int)(k0_0:List (List Int))(k0_1 k0_2 k0_3:List Int)(φ:assignment_solver->Prop):Prop:=Pt env 123 W B [1,1,1,0,1,0] [(0,.alias 1000000 []),(1,.lit (.int .i64 x1)),(2,.lit (.int .i64 x2)),(6,.own (z0.map (eI .i64))),(7,.own ((zA x2.toNat (0:Int)).map (eI .i64))),(8,.own ((zA (IntKind.wrap .i64 (x2+1)).toNat false).map eB)),(25,.lit (.int .i64 ((zA x2.toNat (0:Int)).length:Int))),(26,.lit (.int .i64 z1)),(1000000,.box [.sl (k0_0.map (eSl (eI .i64))),.own (k0_1.map (eI .i64)),.own (k0_2.map (eI .i64)),.own (k0_3.map (eI .i64))])] (Lv env 123 Tryz.f123 3 res φ)
def L2(x2:Int)(z0 z1:List Int)(z2:List Bool)(z3:Int)(k0_0:List (List Int))(k0_1 k0_2 z4:List Int)(φ:assignment_solver->Prop):Prop:=Pt env 123 W B [1,1,1,1,1,1,0,0] [(0,.alias 1000000 []),(2,.lit (.int .i64 x2)),(6,.own (z0.map (eI .i64))),(7,.own (z1.map (eI .i64))),(8,.own (z2.map eB)),(10,.lit (.int .i64 z3)),(1000000,.box [.sl (k0_0.map (eSl (eI .i64))),.own (k0_1.map (eI .i64)),.own (k0_2.map (eI .i64)),.own (z4.map (eI .i64))])] (Lv env 123 Tryz.f123 3 res φ)
def L3(x2:Int)(z0 z1:List Int)(z2:List Bool)(z3 a8:Int)(z4 z5 z6:Int)(k0_0:List (List Int))(k0_1 k0_2 z7:List Int)(φ:assignment_solver->Prop):Prop:=Pt env 123 W B [1,1,1,1,1,1,0,0,0,1,0,1,1,1,0,1,0] [(0,.alias 1000000 []),(2,.lit (.int .i64 x2)),(6,.own (z0.map (eI .i64))),(7,.own (z1.map (eI .i64))),(8,.own (z2.map eB)),(10,.lit (.int .i64 z3)),(11,.lit (.int .i64 a8)),(12,.lit (.int .i64 z4)),(13,.lit (.int .i64 z5)),(59,.lit (.int .i64 x2)),(60,.lit (.int .i64 z6)),(1000000,.box [.sl (k0_0.map (eSl (eI .i64))),.own (k0_1.map (eI .i64)),.own (k0_2.map (eI .i64)),.own (z7.map (eI .i64))])] (Lv env 123 Tryz.f123 3 res φ)
def L4(x2:Int)(z0:List Int)(z1:Int)(k0_0:List (List Int))(k0_1 k0_2 z2:List Int)(φ:assignment_solver->Prop):Prop:=Pt env 123 W B [1,1,1,1,1,1,1,0,0] [(0,.alias 1000000 []),(2,.lit (.int .i64 x2)),(7,.own (z0.map (eI .i64))),(10,.lit (.int .i64 z1)),(1000000,.box [.sl (k0_0.map (eSl (eI .i64))),.own (k0_1.map (eI .i64)),.own (k0_2.map (eI .i64)),.own (z2.map (eI .i64))])] (Lv env 123 Tryz.f123 3 res φ)
def L5(x2:Int)(z0 z1:List Int)(z2:List Bool)(z3 a8:Int)(z4 z5 z6:Int)(k0_0:List (List Int))(k0_1 k0_2 z7:List Int)(φ:assignment_solver->Prop):Prop:=Pt env 123 W B [1,1,1,1,1,1,0,0,0,1,0,1,1,1,0,1,0,0,1,1,1] [(0,.alias 1000000 []),(2,.lit (.int .i64 x2)),(6,.own (z0.map (eI .i64))),(7,.own (z1.map (eI .i64))),(8,.own (z2.map eB)),(10,.lit (.int .i64 z3)),(11,.lit (.int .i64 a8)),(12,.lit (.int .i64 z4)),(13,.lit (.int .i64 z5)),(59,.lit (.int .i64 x2)),(60,.lit (.int .i64 z6)),(1000000,.box [.sl (k0_0.map (eSl (eI .i64))),.own (k0_1.map (eI .i64)),.own (k0_2.map (eI .i64)),.own (z7.map (eI .i64))])] (Lv env 123 Tryz.f123 3 res φ)
def L6(x2:Int)(z0 z1:List Int)(z2:List Bool)(z3 a8:Int)(z4 z5 z6:Int)(k0_0:List (List Int))(k0_1 k0_2 z7:List Int)(φ:assignment_solver->Prop):Prop:=Pt env 123 W B [1,1,1,1,1,1,0,0,0,1,0,1,1,1,0,1,0,0,1,1,0,0,1,1,1,0] [(0,.alias 1000000 []),(2,.lit (.int .i64 x2)),(6,.own (z0.map (eI .i64))),(7,.own (z1.map (eI .i64))),(8,.own (z2.map eB)),(10,.lit (.int .i64 z3)),(11,.lit (.int .i64 a8)),(12,.lit (.int .i64 z4)),(13,.lit (.int .i64 z5)),(14,.lit (.int .i64 z6)),(59,.lit (.int .i64 x2)),(60,.lit (.int .i64 z6)),(1000000,.box [.sl (k0_0.map (eSl (eI .i64))),.own (k0_1.map (eI .i64)),.own (k0_2.map (eI .i64)),.own (z7.map (eI .i64))])] (Lv env 123 Tryz.f123 3 res φ)
def L7(x2:Int)(z0 z1:List Int)(z2:List Bool)(z3 z4 z5:Int)(k0_0:List (List Int))(k0_1 k0_2 z6:List Int)(φ:assignment_solver->Prop):Prop:=Pt env 123 W B [1,1,1,1,1,1,0,0,0,1,0,1,1,1,1,0,1,0] [(0,.alias 1000000 []),(2,.lit (.int .i64 x2)),(6,.own (z0.map (eI .i64))),(7,.own (z1.map (eI .i64))),(8,.own (z2.map eB)),(12,.lit (.int .i64 z3)),(13,.lit (.int .i64 z4)),(120,.lit (.int .i64 (IntKind.wrap .i64 (x2+1)))),(121,.lit (.int .i64 z5)),(1000000,.box [.sl (k0_0.map (eSl (eI .i64))),.own (k0_1.map (eI .i64)),.own (k0_2.map (eI .i64)),.own (z6.map (eI .i64))])] (Lv env 123 Tryz.f123 3 res φ)
def L8(x2:Int)(z0 z1:List Int)(z2:List Bool)(z3 z4 z5:Int)(k0_0:List (List Int))(z6 z7 z8:List Int)(φ:assignment_solver->Prop):Prop:=Pt env 123 W B [1,1,1,1,1,1,0,0,0,1,0,1,1,1,1,0,1,0,0,1,1,1] [(0,.alias 1000000 []),(2,.lit (.int .i64 x2)),(6,.own (z0.map (eI .i64))),(7,.own (z1.map (eI .i64))),(8,.own (z2.map eB)),(12,.lit (.int .i64 z3)),(13,.lit (.int .i64 z4)),(120,.lit (.int .i64 (IntKind.wrap .i64 (x2+1)))),(121,.lit (.int .i64 z5)),(1000000,.box [.sl (k0_0.map (eSl (eI .i64))),.own (z6.map (eI .i64)),.own (z7.map (eI .i64)),.own (z8.map (eI .i64))])] (Lv env 123 Tryz.f123 3 res φ)
theorem L1_step(x1 x2:Int)(z0:List Int)(z1:Int)(k0_0:List (List Int))(k0_1 k0_2 k0_3:List Int)(φ:assignment_solver->Prop)(h:(if z1<((zA x2.toNat (0:Int)).length:Int)then ∃a4,lget z0 z1=some a4/\L1 x1 x2 (lset z0 z1 1152921504606846976) (IntKind.wrap .i64 (z1+1)) k0_0 k0_1 k0_2 k0_3 φ else ∃a6,lget k0_3 x2=some a6/\L2 x2 z0 (zA x2.toNat (0:Int)) (zA (IntKind.wrap .i64 (x2+1)).toNat false) x2 k0_0 k0_1 k0_2 (lset k0_3 x2 x1) φ)):L1 x1 x2 z0 z1 k0_0 k0_1 k0_2 k0_3 φ:=mIn<|mAsk 2 h dT dF (fun h=>mIy 10 (eI .i64) h fun a4 h5 h=>mSto 0 (eI .i64) 1152921504606846976 h5<|mFin 5 h) fun h=>mIy 14 (eI .i64) h fun a6 h7 h=>mSto 0 (eI .i64) x1 h7<|mFin 1 h
theorem L2_step(x2:Int)(z0 z1:List Int)(z2:List Bool)(z3:Int)(k0_0:List (List Int))(k0_1 k0_2 z4:List Int)(φ:assignment_solver->Prop)(h:∃a8,lget z4 z3=some a8/\(if 0<=a8 then ∃a10,lget z2 z3=some a10/\L3 x2 z0 z1 (lset z2 z3 true) z3 a8 (-1) 1152921504606846976 0 k0_0 k0_1 k0_2 z4 φ else L4 x2 z1 z3 k0_0 k0_1 k0_2 z4 φ)):L2 x2 z0 z1 z2 z3 k0_0 k0_1 k0_2 z4 φ:=mIn<|mIy 7 (eI .i64) h fun a8 h9 h=>mLd 0 (eI .i64) h9<|mAsk 0 h dT dF (fun h=>mIy 6 eB h fun a10 h11 h=>mSto 0 eB true h11<|mIyf 7 (eI .i64) h9<|mLd 0 (eI .i64) h9<|mFin 10 h) fun h=>mFin 3 h
theorem L3_step(x2:Int)(z0 z1:List Int)(z2:List Bool)(z3 a8:Int)(z4 z5 z6:Int)(k0_0:List (List Int))(k0_1 k0_2 z7:List Int)(φ:assignment_solver->Prop)(h:(if z6<x2 then ∃a12,lget z2 z6=some a12/\(if a12=true then L5 x2 z0 z1 z2 z3 a8 z4 z5 z6 k0_0 k0_1 k0_2 z7 φ else ∃a14,lget k0_0 a8=some a14/\∃a16,lget a14 z6=some a16/\∃a18,lget k0_1 a8=some a18/\∃a20,lget k0_2 z6=some a20/\∃a22,lget z0 z6=some a22/\(if(IntKind.wrap .i64 ((IntKind.wrap .i64 (a16-a18))-a20))<a22 then ∃a24,lget z1 z6=some a24/\L6 x2 (lset z0 z6 (IntKind.wrap .i64 ((IntKind.wrap .i64 (a16-a18))-a20))) (lset z1 z6 z3) z2 z3 a8 z4 z5 z6 k0_0 k0_1 k0_2 z7 φ else L6 x2 z0 z1 z2 z3 a8 z4 z5 z6 k0_0 k0_1 k0_2 z7 φ))else L7 x2 z0 z1 z2 z4 z5 0 k0_0 k0_1 k0_2 z7 φ)):L3 x2 z0 z1 z2 z3 a8 z4 z5 z6 k0_0 k0_1 k0_2 z7 φ:=mIn<|mAsk 2 h dT dF (fun h=>mIy 10 eB h fun a12 h13 h=>mLdB 0 h13 h (fun h=>mFin 3 h) fun h=>mIx 9 (eSl (eI .i64)) h fun a14 h15 h=>mIx 2 (eI .i64) h fun a16 h17 h=>mIy 6 (eI .i64) h fun a18 h19 h=>mLd 0 (eI .i64) h19<|mIy 6 (eI .i64) h fun a20 h21 h=>mLd 0 (eI .i64) h21<|mIy 7 (eI .i64) h fun a22 h23 h=>mLd 0 (eI .i64) h23<|mAsk 0 h dT dF (fun h=>mIyf 9 (eI .i64) h23<|mSto 0 (eI .i64) (IntKind.wrap .i64 ((IntKind.wrap .i64 (a16-a18))-a20)) h23<|mIy 0 (eI .i64) h fun a24 h25 h=>mSto 0 (eI .i64) z3 h25<|mFin 1 h) fun h=>mFin 3 h) fun h=>mFin 8 h
theorem L4_step(x2:Int)(z0:List Int)(z1:Int)(k0_0:List (List Int))(k0_1 k0_2 z2:List Int)(φ:assignment_solver->Prop)(h:(if z1=x2 then ∃a32,lget z2 x2=some a32/\φ (⟨k0_0,k0_1,k0_2,(lset z2 x2 (-1))⟩:assignment_solver)else ∃a26,lget z0 z1=some a26/\∃a28,lget z2 a26=some a28/\∃a30,lget z2 z1=some a30/\L4 x2 z0 a26 k0_0 k0_1 k0_2 (lset z2 z1 a28) φ)):L4 x2 z0 z1 k0_0 k0_1 k0_2 z2 φ:=mIn<|Ac1 4 h Abv Abu (fun h=>mIy 15 (eI .i64) h fun a26 h27 h=>mLd 0 (eI .i64) h27<|mIy 0 (eI .i64) h fun a28 h29 h=>mLd 0 (eI .i64) h29<|mIy 0 (eI .i64) h fun a30 h31 h=>mSto 0 (eI .i64) a28 h31<|mIyf 4 (eI .i64) h27<|mLd 0 (eI .i64) h27<|mFin 2 h) fun h=>mIy 9 (eI .i64) h fun a32 h33 h=>mSto 0 (eI .i64) (-1) h33<|mRet 0 h
theorem L5_step(x2:Int)(z0 z1:List Int)(z2:List Bool)(z3 a8:Int)(z4 z5 z6:Int)(k0_0:List (List Int))(k0_1 k0_2 z7:List Int)(φ:assignment_solver->Prop)(h:L3 x2 z0 z1 z2 z3 a8 z4 z5 (IntKind.wrap .i64 (z6+1)) k0_0 k0_1 k0_2 z7 φ):L5 x2 z0 z1 z2 z3 a8 z4 z5 z6 k0_0 k0_1 k0_2 z7 φ:=mIn<|mFin 4 h
theorem L6_step(x2:Int)(z0 z1:List Int)(z2:List Bool)(z3 a8:Int)(z4 z5 z6:Int)(k0_0:List (List Int))(k0_1 k0_2 z7:List Int)(φ:assignment_solver->Prop)(h:∃a34,lget z0 z6=some a34/\(if a34<z5 then L5 x2 z0 z1 z2 z3 a8 z6 a34 z6 k0_0 k0_1 k0_2 z7 φ else L5 x2 z0 z1 z2 z3 a8 z4 z5 z6 k0_0 k0_1 k0_2 z7 φ)):L6 x2 z0 z1 z2 z3 a8 z4 z5 z6 k0_0 k0_1 k0_2 z7 φ:=mIn<|mIy 3 (eI .i64) h fun a34 h35 h=>mLd 0 (eI .i64) h35<|mAsk 1 h dT dF (fun h=>mIyf 6 (eI .i64) h35<|mLd 0 (eI .i64) h35<|mFin 3 h) fun h=>mFin 3 h
theorem L7_step(x2:Int)(z0 z1:List Int)(z2:List Bool)(z3 z4 z5:Int)(k0_0:List (List Int))(k0_1 k0_2 z6:List Int)(φ:assignment_solver->Prop)(h:(if z5<(IntKind.wrap .i64 (x2+1))then ∃a36,lget z2 z5=some a36/\(if a36=true then ∃a38,lget z6 z5=some a38/\∃a40,lget k0_1 a38=some a40/\∃a42,lget k0_2 z5=some a42/\L8 x2 z0 z1 z2 z3 z4 z5 k0_0 (lset k0_1 a38 (IntKind.wrap .i64 (a40+z4))) (lset k0_2 z5 (IntKind.wrap .i64 (a42-z4))) z6 φ else(if z5<x2 then ∃a44,lget z0 z5=some a44/\L8 x2 (lset z0 z5 (IntKind.wrap .i64 (a44-z4))) z1 z2 z3 z4 z5 k0_0 k0_1 k0_2 z6 φ else L8 x2 z0 z1 z2 z3 z4 z5 k0_0 k0_1 k0_2 z6 φ))else L2 x2 z0 z1 z2 z3 k0_0 k0_1 k0_2 z6 φ)):L7 x2 z0 z1 z2 z3 z4 z5 k0_0 k0_1 k0_2 z6 φ:=mIn<|mAsk 2 h dT dF (fun h=>mIy 10 eB h fun a36 h37 h=>mLd 0 eB h37<|mCon 2 h id fls (fun h=>mIy 10 (eI .i64) h fun a38 h39 h=>mLd 0 (eI .i64) h39<|mIy 0 (eI .i64) h fun a40 h41 h=>mLd 0 (eI .i64) h41<|mIyf 2 (eI .i64) h41<|mSto 0 (eI .i64) (IntKind.wrap .i64 (a40+z4)) h41<|mIy 7 (eI .i64) h fun a42 h43 h=>mLd 0 (eI .i64) h43<|mIyf 2 (eI .i64) h43<|mSto 0 (eI .i64) (IntKind.wrap .i64 (a42-z4)) h43<|mFin 1 h) fun h=>mCon 6 h dT dF (fun h=>mIy 3 (eI .i64) h fun a44 h45 h=>mLd 0 (eI .i64) h45<|mIyf 2 (eI .i64) h45<|mSto 0 (eI .i64) (IntKind.wrap .i64 (a44-z4)) h45<|mFin 1 h) fun h=>mFin 1 h) fun h=>mFin 7 h
theorem L8_step(x2:Int)(z0 z1:List Int)(z2:List Bool)(z3 z4 z5:Int)(k0_0:List (List Int))(z6 z7 z8:List Int)(φ:assignment_solver->Prop)(h:L7 x2 z0 z1 z2 z3 z4 (IntKind.wrap .i64 (z5+1)) k0_0 z6 z7 z8 φ):L8 x2 z0 z1 z2 z3 z4 z5 k0_0 z6 z7 z8 φ:=mIn<|mFin 4 h
theorem enter(x1 x2:Int)(k0_0:List (List Int))(k0_1 k0_2 k0_3:List Int)(φ:assignment_solver->Prop)(h:(0<=x2/\x2*8<=281474976710656)/\(0<=x2/\x2*8<=281474976710656)/\(0<=(IntKind.wrap .i64 (x2+1))/\(IntKind.wrap .i64 (x2+1))*1<=281474976710656)/\L1 x1 x2 (zA x2.toNat (0:Int)) 0 k0_0 k0_1 k0_2 k0_3 φ):∃r,φ r/\C x1 x2 k0_0 k0_1 k0_2 k0_3 r:=mEnt (fd:=Tryz.f123) (body:=B) (V:=W) (res:=res)<|h.elim fun h1 h=>mVl 2 (Ad9 (t:=34) (x:=(.tmp 17)) (y:=(.tmp 17)) (q:=.i64) (i:=x2) (et:=2) (z:=.lit (.int .i64 0)) (e:=(eI .i64)) (a:=(0:Int)) (k:=8) (by kernel_rfl) (by kernel_rfl) (by kernel_rfl) (by kernel_rfl) (by kernel_rfl) (by kernel_rfl) (by kernel_rfl) (by kernel_rfl) (by kernel_rfl) (by kernel_rfl) h1.1 h1.2)<|h.elim fun h2 h=>mVl 4 (Ad9 (t:=141) (x:=(.tmp 19)) (y:=(.tmp 19)) (q:=.i64) (i:=x2) (et:=3) (z:=.lit (.int .i64 0)) (e:=(eI .i64)) (a:=(0:Int)) (k:=8) (by kernel_rfl) (by kernel_rfl) (by kernel_rfl) (by kernel_rfl) (by kernel_rfl) (by kernel_rfl) (by kernel_rfl) (by kernel_rfl) (by kernel_rfl) (by kernel_rfl) h2.1 h2.2)<|h.elim fun h3 h=>mVl 5 (Ad9 (t:=192) (x:=(.tmp 22)) (y:=(.tmp 22)) (q:=.i64) (i:=(IntKind.wrap .i64 (x2+1))) (et:=4) (z:=.lit (.bool false)) (e:=eB) (a:=false) (k:=1) (by kernel_rfl) (by kernel_rfl) (by kernel_rfl) (by kernel_rfl) (by kernel_rfl) (by kernel_rfl) (by kernel_rfl) (by kernel_rfl) (by kernel_rfl) (by kernel_rfl) h3.1 h3.2)<|mLen 4 (eI .i64) (zA x2.toNat (0:Int))<|mFin 2 h
end q30_
namespace q68_
noncomputable def B:Code:=(Tryz.f103.body).getD .skip
def W:List Nat:=[0,1,4,5,6,7,19,24,25,26,36,37,38]
def res(r:assignment_solver):D×List D:=(.box [.sl (r.cost.map (eSl (eI .i64))),.own (r.u.map (eI .i64)),.own (r.v.map (eI .i64)),.own (r.row.map (eI .i64))],[])
def C(x0:List (List Int))(x1:Int)(r:assignment_solver):Prop:=Ret env 103 [.sl (x0.map (eSl (eI .i64))),.lit (.int .i64 x1)] (res r).1 (res r).2
def L1(x0:List (List Int))(x1:Int)(z0:List Int)(z1:Int)(φ:assignment_solver->Prop):Prop:=Pt env 103 W B [1,1,0,1,0] [(0,.sl (x0.map (eSl (eI .i64)))),(1,.lit (.int .i64 x1)),(5,.alias 19 []),(19,.box [.sl (x0.map (eSl (eI .i64))),.own ((zA x0.length (0:Int)).map (eI .i64)),.own ((zA (IntKind.wrap .i64 (x1+1)).toNat (0:Int)).map (eI .i64)),.own (z0.map (eI .i64))]),(24,.lit (.int .i64 ((zA (IntKind.wrap .i64 (x1+1)).toNat (0:Int)).length:Int))),(25,.lit (.int .i64 z1))] (Lv env 103 Tryz.f103 2 res φ)
def L2(x0:List (List Int))(x1:Int)(z0:List (List Int))(z1 z2 z3:List Int)(z4:Int)(φ:assignment_solver->Prop):Prop:=Pt env 103 W B [1,1,1,0,1,0] [(0,.sl (x0.map (eSl (eI .i64)))),(1,.lit (.int .i64 x1)),(5,.alias 19 []),(19,.box [.sl (z0.map (eSl (eI .i64))),.own (z1.map (eI .i64)),.own (z2.map (eI .i64)),.own (z3.map (eI .i64))]),(36,.lit (.int .i64 (x0.length:Int))),(37,.lit (.int .i64 z4))] (Lv env 103 Tryz.f103 2 res φ)
theorem L1_step(x0:List (List Int))(x1:Int)(z0:List Int)(z1:Int)(φ:assignment_solver->Prop)(h:(if z1<((zA (IntKind.wrap .i64 (x1+1)).toNat (0:Int)).length:Int)then ∃a4,lget z0 z1=some a4/\L1 x0 x1 (lset z0 z1 (-1)) (IntKind.wrap .i64 (z1+1)) φ else L2 x0 x1 x0 (zA x0.length (0:Int)) (zA (IntKind.wrap .i64 (x1+1)).toNat (0:Int)) z0 0 φ)):L1 x0 x1 z0 z1 φ:=mIn<|mAsk 2 h dT dF (fun h=>mIy 13 (eI .i64) h fun a4 h5 h=>mSto 0 (eI .i64) (-1) h5<|mFin 5 h) fun h=>mLen 5 (eSl (eI .i64)) x0<|mFin 2 h
theorem L2_step(x0:List (List Int))(x1:Int)(z0:List (List Int))(z1 z2 z3:List Int)(z4:Int)(φ:assignment_solver->Prop)(h:(if z4<(x0.length:Int)then ∃r6:assignment_solver,q30_.C z4 x1 z0 z1 z2 z3 r6/\L2 x0 x1 r6.cost r6.u r6.v r6.row (IntKind.wrap .i64 (z4+1)) φ else φ (⟨z0,z1,z2,z3⟩:assignment_solver))):L2 x0 x1 z0 z1 z2 z3 z4 φ:=mIn<|mAsk 2 h dT dF (fun h=>mCal 11 h (fun _ h=>h) (hf:=(fun _=>Ae5)) fun r6 _ h=>mFin 5 h) fun h=>mRet 7 h
theorem enter(x0:List (List Int))(x1:Int)(φ:assignment_solver->Prop)(h:(0<=(x0.length:Int)/\(x0.length:Int)*8<=281474976710656)/\(0<=(IntKind.wrap .i64 (x1+1))/\(IntKind.wrap .i64 (x1+1))*8<=281474976710656)/\(0<=(IntKind.wrap .i64 (x1+1))/\(IntKind.wrap .i64 (x1+1))*8<=281474976710656)/\L1 x0 x1 (zA (IntKind.wrap .i64 (x1+1)).toNat (0:Int)) 0 φ):∃r,φ r/\C x0 x1 r:=mEnt (fd:=Tryz.f103) (body:=B) (V:=W) (res:=res)<|mLen 6 (eSl (eI .i64)) x0<|h.elim fun h1 h=>mVl 0 (Ad9 (t:=34) (x:=(.tmp 10)) (y:=(.tmp 10)) (q:=.i64) (i:=(x0.length:Int)) (et:=2) (z:=.lit (.int .i64 0)) (e:=(eI .i64)) (a:=(0:Int)) (k:=8) (by kernel_rfl) (by kernel_rfl) (by kernel_rfl) (by kernel_rfl) (by kernel_rfl) (by kernel_rfl) (by kernel_rfl) (by kernel_rfl) (by kernel_rfl) (by kernel_rfl) h1.1 h1.2)<|h.elim fun h2 h=>mVl 2 (Ad9 (t:=34) (x:=(.tmp 13)) (y:=(.tmp 13)) (q:=.i64) (i:=(IntKind.wrap .i64 (x1+1))) (et:=2) (z:=.lit (.int .i64 0)) (e:=(eI .i64)) (a:=(0:Int)) (k:=8) (by kernel_rfl) (by kernel_rfl) (by kernel_rfl) (by kernel_rfl) (by kernel_rfl) (by kernel_rfl) (by kernel_rfl) (by kernel_rfl) (by kernel_rfl) (by kernel_rfl) h2.1 h2.2)<|h.elim fun h3 h=>mVl 2 (Ad9 (t:=141) (x:=(.tmp 16)) (y:=(.tmp 16)) (q:=.i64) (i:=(IntKind.wrap .i64 (x1+1))) (et:=3) (z:=.lit (.int .i64 0)) (e:=(eI .i64)) (a:=(0:Int)) (k:=8) (by kernel_rfl) (by kernel_rfl) (by kernel_rfl) (by kernel_rfl) (by kernel_rfl) (by kernel_rfl) (by kernel_rfl) (by kernel_rfl) (by kernel_rfl) (by kernel_rfl) h3.1 h3.2) <|
 mLen 9 (eI .i64) (zA (IntKind.wrap .i64 (x1+1)).toNat (0:Int))<|mFin 2 h
end q68_
namespace q27_
noncomputable def B:Code:=(Tryz.f105.body).getD .skip
def W:List Nat:=[0,2,3,4,5,15,16,17,18,23,1000000]
def res(r:List Int×assignment_solver):D×List D:=(.own (r.1.map (eI .i64)),[.box [.sl (r.2.cost.map (eSl (eI .i64))),.own (r.2.u.map (eI .i64)),.own (r.2.v.map (eI .i64)),.own (r.2.row.map (eI .i64))]])
def C(k0_0:List (List Int))(k0_1 k0_2 k0_3:List Int)(r:List Int×assignment_solver):Prop:=Ret env 105 [.box [.sl (k0_0.map (eSl (eI .i64))),.own (k0_1.map (eI .i64)),.own (k0_2.map (eI .i64)),.own (k0_3.map (eI .i64))]] (res r).1 (res r).2
def L1(z0 k0_3:List Int)(z1:Int)(k0_0:List (List Int))(k0_1 k0_2:List Int)(φ:List Int×assignment_solver->Prop):Prop:=Pt env 105 W B [1,1,0,1,0] [(0,.alias 1000000 []),(3,.own (z0.map (eI .i64))),(15,.alias 1000000 [(0,3)]),(16,.lit (.int .i64 (k0_3.length:Int))),(17,.lit (.int .i64 z1)),(1000000,.box [.sl (k0_0.map (eSl (eI .i64))),.own (k0_1.map (eI .i64)),.own (k0_2.map (eI .i64)),.own (k0_3.map (eI .i64))])] (Lv env 105 Tryz.f105 1 res φ)
def L2(z0 k0_3:List Int)(z1:Int)(k0_0:List (List Int))(k0_1 k0_2:List Int)(φ:List Int×assignment_solver->Prop):Prop:=Pt env 105 W B [1,1,0,1,0,0,1,1,1] [(0,.alias 1000000 []),(3,.own (z0.map (eI .i64))),(15,.alias 1000000 [(0,3)]),(16,.lit (.int .i64 (k0_3.length:Int))),(17,.lit (.int .i64 z1)),(1000000,.box [.sl (k0_0.map (eSl (eI .i64))),.own (k0_1.map (eI .i64)),.own (k0_2.map (eI .i64)),.own (k0_3.map (eI .i64))])] (Lv env 105 Tryz.f105 1 res φ)
theorem L1_step(z0 k0_3:List Int)(z1:Int)(k0_0:List (List Int))(k0_1 k0_2:List Int)(φ:List Int×assignment_solver->Prop)(h:(if z1<(k0_3.length:Int)then ∃a2,lget k0_3 z1=some a2/\(if 0<=a2 then ∃a4,lget z0 a2=some a4/\L2 (lset z0 a2 z1) k0_3 z1 k0_0 k0_1 k0_2 φ else L2 z0 k0_3 z1 k0_0 k0_1 k0_2 φ)else φ (z0,(⟨k0_0,k0_1,k0_2,k0_3⟩:assignment_solver)))):L1 z0 k0_3 z1 k0_0 k0_1 k0_2 φ:=mIn<|mAsk 2 h dT dF (fun h=>mIy 5 (eI .i64) h fun a2 h3 h=>mLd 0 (eI .i64) h3<|mAsk 5 h dT dF (fun h=>mIy 6 (eI .i64) h fun a4 h5 h=>mSto 0 (eI .i64) z1 h5<|mFin 1 h) fun h=>mFin 3 h) fun h=>mRet 7 h
theorem L2_step(z0 k0_3:List Int)(z1:Int)(k0_0:List (List Int))(k0_1 k0_2:List Int)(φ:List Int×assignment_solver->Prop)(h:L1 z0 k0_3 (IntKind.wrap .i64 (z1+1)) k0_0 k0_1 k0_2 φ):L2 z0 k0_3 z1 k0_0 k0_1 k0_2 φ:=mIn<|mFin 4 h
theorem enter(k0_0:List (List Int))(k0_1 k0_2 k0_3:List Int)(φ:List Int×assignment_solver->Prop)(h:(0<=(k0_0.length:Int)/\(k0_0.length:Int)*8<=281474976710656)/\L1 (zA k0_0.length (0:Int)) k0_3 0 k0_0 k0_1 k0_2 φ):∃r,φ r/\C k0_0 k0_1 k0_2 k0_3 r:=mEnt (fd:=Tryz.f105) (body:=B) (V:=W) (res:=res)<|mLen 8 (eSl (eI .i64)) k0_0<|h.elim fun h1 h=>mVl 0 (Ad9 (t:=141) (x:=(.tmp 10)) (y:=(.tmp 10)) (q:=.i64) (i:=(k0_0.length:Int)) (et:=3) (z:=.lit (.int .i64 0)) (e:=(eI .i64)) (a:=(0:Int)) (k:=8) (by kernel_rfl) (by kernel_rfl) (by kernel_rfl) (by kernel_rfl) (by kernel_rfl) (by kernel_rfl) (by kernel_rfl) (by kernel_rfl) (by kernel_rfl) (by kernel_rfl) h1.1 h1.2)<|mLen 7 (eI .i64) k0_3<|mFin 2 h
end q27_
namespace q44_
noncomputable def B:Code:=(Tryz.f122.body).getD .skip
def W:List Nat:=[0,2]
def res(r:Bool):D×List D:=(.lit (.bool r),[])
def C(x0:Int)(r:Bool):Prop:=Ret env 122 [.lit (.int .i64 x0)] (res r).1 (res r).2
theorem enter(x0:Int)(φ:Bool->Prop)(h:(if x0<(-1000000000)then φ true else φ (decide (1000000000<x0)))):∃r,φ r/\C x0 r:=mEnt (fd:=Tryz.f122) (body:=B) (V:=W) (res:=res)<|mAsk 5 h dT dF (fun h=>mRet 6 h) fun h=>mRet 6 h
end q44_
namespace q14_
noncomputable def B:Code:=(Tryz.f51.body).getD .skip
def W:List Nat:=[0,1,4,5,7,8,9,16]
def res(r:Int):D×List D:=(.lit (.int .i64 r),[])
def C(x0:List Int)(r:Int):Prop:=Ret env 51 [.sl (x0.map (eI .i64)),.fn 122 []] (res r).1 (res r).2
def L1(x0:List Int)(z0:Int)(φ:Int->Prop):Prop:=Pt env 51 W B [1,0,1,0] [(0,.sl (x0.map (eI .i64))),(1,.fn 122 []),(7,.lit (.int .i64 (x0.length:Int))),(8,.lit (.int .i64 z0))] (Lv env 51 Tryz.f51 2 res φ)
theorem L1_step(x0:List Int)(z0:Int)(φ:Int->Prop)(h:(if z0<(x0.length:Int)then ∃a1,lget x0 z0=some a1/\∃r3:Bool,q44_.C a1 r3/\(if r3=true then φ z0 else L1 x0 (IntKind.wrap .i64 (z0+1)) φ)else φ (-1))):L1 x0 z0 φ:=mIn<|mAsk 2 h dT dF (fun h=>mIx 11 (eI .i64) h fun a1 h2 h=>Aav 1 h (fun _ h=>h) (fun _ h=>mRet 6 h) fun _ h=>mFin 7 h) fun h=>mRet 6 h
theorem enter(x0:List Int)(φ:Int->Prop)(h:L1 x0 0 φ):∃r,φ r/\C x0 r:=mEnt (fd:=Tryz.f51) (body:=B) (V:=W) (res:=res)<|mLen 5 (eI .i64) x0<|mFin 2 h
end q14_
namespace q8_
noncomputable def B:Code:=(Tryz.f29.body).getD .skip
def W:List Nat:=[0,1,4]
def res(r:Bool):D×List D:=(.lit (.bool r),[])
def C(x0:List Int)(r:Bool):Prop:=Ret env 29 [.sl (x0.map (eI .i64)),.fn 122 []] (res r).1 (res r).2
theorem enter(x0:List Int)(φ:Bool->Prop)(h:∃r1:Int,q14_.C x0 r1/\φ (decide (0<=r1))):∃r,φ r/\C x0 r:=mEnt (fd:=Tryz.f29) (body:=B) (V:=W) (res:=res)<|mCal 6 h (fun _ h=>h) fun r1 _ h=>mRet 3 h
end q8_
namespace q45_
noncomputable def B:Code:=(Tryz.f120.body).getD .skip
def W:List Nat:=[0,2]
def res(r:Bool):D×List D:=(.lit (.bool r),[])
def C(x0:List Int)(r:Bool):Prop:=Ret env 120 [.sl (x0.map (eI .i64))] (res r).1 (res r).2
theorem enter(x0:List Int)(φ:Bool->Prop)(h:φ (decide (60<(x0.length:Int)))):∃r,φ r/\C x0 r:=mEnt (fd:=Tryz.f120) (body:=B) (V:=W) (res:=res)<|mLen 5 (eI .i64) x0<|mRet 3 h
end q45_
namespace q11_
noncomputable def B:Code:=(Tryz.f132.body).getD .skip
def W:List Nat:=[0,1,4,5,7,8,9,16]
def res(r:Int):D×List D:=(.lit (.int .i64 r),[])
def C(x0:List (List Int))(r:Int):Prop:=Ret env 132 [.sl (x0.map (eSl (eI .i64))),.fn 120 []] (res r).1 (res r).2
def L1(x0:List (List Int))(z0:Int)(φ:Int->Prop):Prop:=Pt env 132 W B [1,0,1,0] [(0,.sl (x0.map (eSl (eI .i64)))),(1,.fn 120 []),(7,.lit (.int .i64 (x0.length:Int))),(8,.lit (.int .i64 z0))] (Lv env 132 Tryz.f132 2 res φ)
theorem L1_step(x0:List (List Int))(z0:Int)(φ:Int->Prop)(h:(if z0<(x0.length:Int)then ∃a1,lget x0 z0=some a1/\∃r3:Bool,q45_.C a1 r3/\(if r3=true then φ z0 else L1 x0 (IntKind.wrap .i64 (z0+1)) φ)else φ (-1))):L1 x0 z0 φ:=mIn<|mAsk 2 h dT dF (fun h=>mIx 11 (eSl (eI .i64)) h fun a1 h2 h=>Aav 1 h (fun _ h=>h) (fun _ h=>mRet 6 h) fun _ h=>mFin 7 h) fun h=>mRet 6 h
theorem enter(x0:List (List Int))(φ:Int->Prop)(h:L1 x0 0 φ):∃r,φ r/\C x0 r:=mEnt (fd:=Tryz.f132) (body:=B) (V:=W) (res:=res)<|mLen 5 (eSl (eI .i64)) x0<|mFin 2 h
end q11_
namespace q6_
noncomputable def B:Code:=(Tryz.f119.body).getD .skip
def W:List Nat:=[0,1,4]
def res(r:Bool):D×List D:=(.lit (.bool r),[])
def C(x0:List (List Int))(r:Bool):Prop:=Ret env 119 [.sl (x0.map (eSl (eI .i64))),.fn 120 []] (res r).1 (res r).2
theorem enter(x0:List (List Int))(φ:Bool->Prop)(h:∃r1:Int,q11_.C x0 r1/\φ (decide (0<=r1))):∃r,φ r/\C x0 r:=mEnt (fd:=Tryz.f119) (body:=B) (V:=W) (res:=res)<|mCal 6 h (fun _ h=>h) fun r1 _ h=>mRet 3 h
end q6_
namespace q46_
noncomputable def B:Code:=(Tryz.f121.body).getD .skip
def W:List Nat:=[0,1,3]
def res(r:Bool):D×List D:=(.lit (.bool r),[])
def C(x0:List Int)(k1_0:Int)(r:Bool):Prop:=Ret env 121 [.sl (x0.map (eI .i64)),.ref [.lit (.int .i64 k1_0)]] (res r).1 (res r).2
theorem enter(x0:List Int)(k1_0:Int)(φ:Bool->Prop)(h:φ ((x0.length:Int)!=k1_0)):∃r,φ r/\C x0 k1_0 r:=mEnt (fd:=Tryz.f121) (body:=B) (V:=W) (res:=res)<|mLen 5 (eI .i64) x0<|mRet 4 h
end q46_
namespace q12_
noncomputable def B:Code:=(Tryz.f132.body).getD .skip
def W:List Nat:=[0,1,4,5,7,8,9,16]
def res(r:Int):D×List D:=(.lit (.int .i64 r),[])
def C(x0:List (List Int))(k1_0 r:Int):Prop:=Ret env 132 [.sl (x0.map (eSl (eI .i64))),.fn 121 [.ref [.lit (.int .i64 k1_0)]]] (res r).1 (res r).2
def L1(x0:List (List Int))(k1_0 z0:Int)(φ:Int->Prop):Prop:=Pt env 132 W B [1,0,1,0] [(0,.sl (x0.map (eSl (eI .i64)))),(1,.fn 121 [.ref [.lit (.int .i64 k1_0)]]),(7,.lit (.int .i64 (x0.length:Int))),(8,.lit (.int .i64 z0))] (Lv env 132 Tryz.f132 2 res φ)
theorem L1_step(x0:List (List Int))(k1_0 z0:Int)(φ:Int->Prop)(h:(if z0<(x0.length:Int)then ∃a1,lget x0 z0=some a1/\∃r3:Bool,q46_.C a1 k1_0 r3/\(if r3=true then φ z0 else L1 x0 k1_0 (IntKind.wrap .i64 (z0+1)) φ)else φ (-1))):L1 x0 k1_0 z0 φ:=mIn<|mAsk 2 h dT dF (fun h=>mIx 11 (eSl (eI .i64)) h fun a1 h2 h=>Aav 1 h (fun _ h=>h) (fun _ h=>mRet 6 h) fun _ h=>mFin 7 h) fun h=>mRet 6 h
theorem enter(x0:List (List Int))(k1_0:Int)(φ:Int->Prop)(h:L1 x0 k1_0 0 φ):∃r,φ r/\C x0 k1_0 r:=mEnt (fd:=Tryz.f132) (body:=B) (V:=W) (res:=res)<|mLen 5 (eSl (eI .i64)) x0<|mFin 2 h
end q12_
namespace q7_
noncomputable def B:Code:=(Tryz.f119.body).getD .skip
def W:List Nat:=[0,1,4]
def res(r:Bool):D×List D:=(.lit (.bool r),[])
def C(x0:List (List Int))(k1_0:Int)(r:Bool):Prop:=Ret env 119 [.sl (x0.map (eSl (eI .i64))),.fn 121 [.ref [.lit (.int .i64 k1_0)]]] (res r).1 (res r).2
theorem enter(x0:List (List Int))(k1_0:Int)(φ:Bool->Prop)(h:∃r1:Int,q12_.C x0 k1_0 r1/\φ (decide (0<=r1))):∃r,φ r/\C x0 k1_0 r:=mEnt (fd:=Tryz.f119) (body:=B) (V:=W) (res:=res)<|mCal 6 h (fun _ h=>h) fun r1 _ h=>mRet 3 h
end q7_
namespace q69_
noncomputable def B:Code:=(Tryz.f101.body).getD .skip
def W:List Nat:=[0,1,4,5,7,14,17,34,35,36,37,38,42]
def res(r:Int):D×List D:=(.lit (.int .i64 r),[])
def C(x0:List (List Int))(x1:Bool)(r:Int):Prop:=Ret env 101 [.sl (x0.map (eSl (eI .i64))),.lit (.bool x1)] (res r).1 (res r).2
def L2(x0:List (List Int))(φ:Int->Prop):Prop:=Pt env 101 W B [1,1,1,1,1,0,0] [(0,.sl (x0.map (eSl (eI .i64))))] (Lv env 101 Tryz.f101 2 res φ)
def L1(x0:List (List Int))(z0:Int)(φ:Int->Prop):Prop:=Pt env 101 W B [1,1,1,1,1,0,1,0] [(0,.sl (x0.map (eSl (eI .i64)))),(35,.sl (x0.map (eSl (eI .i64)))),(36,.lit (.int .i64 (x0.length:Int))),(37,.lit (.int .i64 z0))] (Lv env 101 Tryz.f101 2 res φ)
theorem L2_step(x0:List (List Int))(φ:Int->Prop)(h:L1 x0 0 φ):L2 x0 φ:=mIn<|mLen 2 (eSl (eI .i64)) x0<|mFin 2 h
theorem L1_step(x0:List (List Int))(z0:Int)(φ:Int->Prop)(h:(if z0<(x0.length:Int)then ∃a5,lget x0 z0=some a5/\∃r7:Bool,q8_.C a5 r7/\(if r7=true then φ 7 else L1 x0 (IntKind.wrap .i64 (z0+1)) φ)else φ 0)):L1 x0 z0 φ:=mIn<|mAsk 2 h dT dF (fun h=>mIx 4 (eSl (eI .i64)) h fun a5 h6 h=>Aav 5 h (fun _ h=>h) (fun _ h=>mRet 5 h) fun _ h=>mFin 7 h) fun h=>mRet 6 h
theorem enter(x0:List (List Int))(x1:Bool)(φ:Int->Prop)(h:(if 60<(x0.length:Int)then φ 3 else ∃r1:Bool,q6_.C x0 r1/\(if r1=true then φ 3 else(if(x0.length:Int)=0 then φ 0 else ∃a2,lget x0 0=some a2/\∃r4:Bool,q7_.C x0 (a2.length:Int) r4/\(if r4=true then φ 6 else(if x1=true then L2 x0 φ else(if(a2.length:Int)<(x0.length:Int)then φ 6 else L2 x0 φ))))))):∃r,φ r/\C x0 x1 r:=mEnt (fd:=Tryz.f101) (body:=B) (V:=W) (res:=res)<|mLen 5 (eSl (eI .i64)) x0<|mAsk 0 h dT dF (fun h=>mRet 9 h) fun h=>Aav 2 h (fun _ h=>h) (fun _ h=>mRet 6 h) fun _ h=>mLen 6 (eSl (eI .i64)) x0<|mAsk 0 h Aaj Aai (fun h=>mRet 5 h) fun h=>mIx 5 (eSl (eI .i64)) h fun a2 h3 h=>mLen 1 (eI .i64) a2<|Aav 6 h (fun _ h=>h) (fun _ h=>mRet 15 h) fun _ h=>mAsk 1 h id fls (fun h=>mFin 11 h) fun h=>mLen 4 (eSl (eI .i64)) x0<|mAsk 0 h dT dF (fun h=>mRet 7 h) fun h=>mFin 5 h
end q69_
namespace q70_
noncomputable def B:Code:=(Tryz.f102.body).getD .skip
def W:List Nat:=[0,2,5]
def res(r:Int):D×List D:=(.lit (.int .i64 r),[])
def C(x0:List (List Int))(r:Int):Prop:=Ret env 102 [.sl (x0.map (eSl (eI .i64)))] (res r).1 (res r).2
theorem enter(x0:List (List Int))(φ:Int->Prop)(h:(if(x0.length:Int)=0 then φ 0 else ∃a1,lget x0 0=some a1/\φ (a1.length:Int))):∃r,φ r/\C x0 r:=mEnt (fd:=Tryz.f102) (body:=B) (V:=W) (res:=res)<|mLen 5 (eSl (eI .i64)) x0<|mAsk 0 h Aaj Aai (fun h=>mRet 5 h) fun h=>mIx 5 (eSl (eI .i64)) h fun a1 h2 h=>mLen 1 (eI .i64) a1<|mRet 2 h
end q70_
namespace q47_
noncomputable def B:Code:=(Tryz.f82.body).getD .skip
def W:List Nat:=[0,2,3,4,5,6,7,8,9,10,14,28,29,30,31,37]
def res(r:List Int×Int×Int):D×List D:=(.tup [.own (r.1.map (eI .i64)),.lit (.int .i64 r.2.1),.lit (.int .i64 r.2.2)],[])
def C(x0:List (List Int))(r:List Int×Int×Int):Prop:=Ret env 82 [.sl (x0.map (eSl (eI .i64)))] (res r).1 (res r).2
def L1(x0:List (List Int))(r2:Int)(z0:List Int)(z1 z2 z3:Int)(φ:List Int×Int×Int->Prop):Prop:=Pt env 82 W B [1,1,1,1,1,0,1,0] [(0,.sl (x0.map (eSl (eI .i64)))),(6,.lit (.int .i64 r2)),(7,.own (z0.map (eI .i64))),(8,.lit (.int .i64 z1)),(28,.alias 7 []),(29,.lit (.int .i64 z2)),(30,.lit (.int .i64 z3))] (Lv env 82 Tryz.f82 1 res φ)
def L2(x0:List (List Int))(r2:Int)(z0:List Int)(z1 z2 z3:Int)(φ:List Int×Int×Int->Prop):Prop:=Pt env 82 W B [1,1,1,1,1,0,1,0,0,1,1,1] [(0,.sl (x0.map (eSl (eI .i64)))),(6,.lit (.int .i64 r2)),(7,.own (z0.map (eI .i64))),(8,.lit (.int .i64 z1)),(28,.alias 7 []),(29,.lit (.int .i64 z2)),(30,.lit (.int .i64 z3))] (Lv env 82 Tryz.f82 1 res φ)
theorem L1_step(x0:List (List Int))(r2:Int)(z0:List Int)(z1 z2 z3:Int)(φ:List Int×Int×Int->Prop)(h:(if z3<z2 then ∃a6,lget z0 z3=some a6/\(if r2<=a6 then L2 x0 r2 (lset z0 z3 (-1)) z1 z2 z3 φ else ∃a8,lget x0 z3=some a8/\∃a10,lget a8 a6=some a10/\L2 x0 r2 z0 (IntKind.wrap .i64 (z1+a10)) z2 z3 φ)else φ (z0,z1,0))):L1 x0 r2 z0 z1 z2 z3 φ:=mIn<|mAsk 2 h dT dF (fun h=>mIy 5 (eI .i64) h fun a6 h7 h=>mLd 0 (eI .i64) h7<|mAsk 6 h dT dF (fun h=>mIyf 5 (eI .i64) h7<|mSto 0 (eI .i64) (-1) h7<|mFin 1 h) fun h=>mIx 6 (eSl (eI .i64)) h fun a8 h9 h=>mIx 2 (eI .i64) h fun a10 h11 h=>mFin 4 h) fun h=>mRet 10 h
theorem L2_step(x0:List (List Int))(r2:Int)(z0:List Int)(z1 z2 z3:Int)(φ:List Int×Int×Int->Prop)(h:L1 x0 r2 z0 z1 z2 (IntKind.wrap .i64 (z3+1)) φ):L2 x0 r2 z0 z1 z2 z3 φ:=mIn<|mFin 4 h
theorem enter(x0:List (List Int))(φ:List Int×Int×Int->Prop)(h:∃r1:Int,q69_.C x0 true r1/\(if r1=0 then ∃r2:Int,q70_.C x0 r2/\∃r3:List (List Int),q37_.C x0 (x0.length:Int) r3/\∃r4:assignment_solver,q68_.C r3 (IntKind.wrap .i64 (r2+(x0.length:Int))) r4/\∃r5:List Int×assignment_solver,q27_.C r4.cost r4.u r4.v r4.row r5/\L1 x0 r2 r5.1 0 (r5.1.length:Int) 0 φ else φ ([],0,r1))):∃r,φ r/\C x0 r:=mEnt (fd:=Tryz.f82) (body:=B) (V:=W) (res:=res)<|mCal 7 h (fun _ h=>h) fun r1 _ h=>Ac1 4 h Abv Abu (fun h=>mRet 8 h) fun h=>mCal 5 h (fun _ h=>h) fun r2 _ h=>mLen 5 (eSl (eI .i64)) x0<|Akn 0 h (fun _ h=>h) (fun(r3:List (List Int))=>Aov (l:=r3) (e:=(eOw (eI .i64))) (e':=(eSl (eI .i64))) rfl (Fzn.ow (fun _=>rfl))) (hf:=(fun _=>Aah (Aam (e:=(eOw (eI .i64))) (Flt.ow (fun _=>rfl))) rfl)) fun r3 _ h=>mLen 2 (eSl (eI .i64)) x0<|mCal 1 h (fun _ h=>h) (hf:=(fun _=>Ae5)) fun r4 _ h=>mCal 0 h (fun _ h=>h) (hf:=(fun _=>Ae5)) fun r5 _ h=>mLen 7 (eI .i64) r5.1<|mFin 2 h
end q47_
namespace q112_
noncomputable def B:Code:=(Tryz.f52.body).getD .skip
def W:List Nat:=[0,2,3,5,6,7,8,9]
def res(r:tractable_kept):D×List D:=(.agg [.own (r.ids.map (eI .i64)),.lit (.int .i64 r.weight)],[])
def C(x0:List tractable_entry)(r:tractable_kept):Prop:=Ret env 52 [.sl (x0.map Aa3)] (res r).1 (res r).2
def L1(x0:List tractable_entry)(z0:List Int)(z1 z2:Int)(φ:tractable_kept->Prop):Prop:=Pt env 52 W B [1,1,0,1,0] [(0,.sl (x0.map Aa3)),(2,.box [.own [],.lit (.int .i64 0)]),(3,.box [.own (z0.map (eI .i64)),.lit (.int .i64 z1)]),(6,.sl (x0.map Aa3)),(7,.lit (.int .i64 (x0.length:Int))),(8,.lit (.int .i64 z2))] (Lv env 52 Tryz.f52 1 res φ)
theorem L1_step(x0:List tractable_entry)(z0:List Int)(z1 z2:Int)(φ:tractable_kept->Prop)(h:(if z2<(x0.length:Int)then ∃a1,lget x0 z2=some a1/\(z0.length+1)*8<=140737488355328/\L1 x0 (z0++[a1.row.ID]) (IntKind.wrap .i64 (z1+a1.weight)) (IntKind.wrap .i64 (z2+1)) φ else φ (⟨z0,z1⟩:tractable_kept))):L1 x0 z0 z1 z2 φ:=mIn<|mAsk 2 h dT dF (fun h=>mIx 4 Aa3 h fun a1 h2 h=>Bbb 11 (eI .i64) z0 ([a1.row.ID]) h fun h=>mFin 14 h) fun h=>mRet 7 h
theorem enter(x0:List tractable_entry)(φ:tractable_kept->Prop)(h:L1 x0 ([]) 0 0 φ):∃r,φ r/\C x0 r:=mEnt (fd:=Tryz.f52) (body:=B) (V:=W) (res:=res)<|mLen 8 Aa3 x0<|mFin 2 h
end q112_
namespace q107_
noncomputable def B:Code:=(Tryz.f54.body).getD .skip
def W:List Nat:=[0,2,3,5,6,7,8,9]
def res(r:tractable_kept):D×List D:=(.agg [.own (r.ids.map (eI .i64)),.lit (.int .i64 r.weight)],[])
def C(x0:List tractable_kept)(r:tractable_kept):Prop:=Ret env 54 [.sl (x0.map Aa6)] (res r).1 (res r).2
def L1(x0:List tractable_kept)(z0:List Int)(z1 z2:Int)(φ:tractable_kept->Prop):Prop:=Pt env 54 W B [1,1,0,1,0] [(0,.sl (x0.map Aa6)),(2,.box [.own [],.lit (.int .i64 0)]),(3,.box [.own (z0.map (eI .i64)),.lit (.int .i64 z1)]),(6,.sl (x0.map Aa6)),(7,.lit (.int .i64 (x0.length:Int))),(8,.lit (.int .i64 z2))] (Lv env 54 Tryz.f54 1 res φ)
theorem L1_step(x0:List tractable_kept)(z0:List Int)(z1 z2:Int)(φ:tractable_kept->Prop)(h:(if z2<(x0.length:Int)then ∃a1,lget x0 z2=some a1/\(z0.length+a1.ids.length)*8<=140737488355328/\L1 x0 (z0++a1.ids) (IntKind.wrap .i64 (z1+a1.weight)) (IntKind.wrap .i64 (z2+1)) φ else φ (⟨z0,z1⟩:tractable_kept))):L1 x0 z0 z1 z2 φ:=mIn<|mAsk 2 h dT dF (fun h=>mIx 4 Aa6 h fun a1 h2 h=>Bbb 9 (eI .i64) z0 a1.ids h fun h=>mFin 14 h) fun h=>mRet 7 h
theorem enter(x0:List tractable_kept)(φ:tractable_kept->Prop)(h:L1 x0 ([]) 0 0 φ):∃r,φ r/\C x0 r:=mEnt (fd:=Tryz.f54) (body:=B) (V:=W) (res:=res)<|mLen 8 Aa6 x0<|mFin 2 h
end q107_
namespace q71_
noncomputable def B:Code:=(Tryz.f81.body).getD .skip
def W:List Nat:=[0,1,4,5,6,14,1000000]
def res(r:Int×(List (ByteArray×Int))):D×List D:=(.lit (.int .i64 r.1),[(eMap Value.string (fun(x:Int)=>D.lit (.int .i64 x)) r.2)])
def C(x1:ByteArray)(k0_0:List (ByteArray×Int))(r:Int×(List (ByteArray×Int))):Prop:=Ret env 81 [(eMap Value.string (fun(x:Int)=>D.lit (.int .i64 x)) k0_0),.lit (.string x1)] (res r).1 (res r).2
theorem enter(x1:ByteArray)(k0_0:List (ByteArray×Int))(φ:Int×(List (ByteArray×Int))->Prop)(h:(if(mhas x1 k0_0)=true then φ ((Asa x1 k0_0 0),k0_0)else φ ((k0_0.length:Int),(mset x1 (k0_0.length:Int) k0_0)))):∃r,φ r/\C x1 k0_0 r:=mEnt (fd:=Tryz.f81) (body:=B) (V:=W) (res:=res)<|mVl 6 (Aog Ary (fun _=>by kernel_rfl) (ek:=Value.string) (ev:=(fun(x:Int)=>D.lit (.int .i64 x))) (t:=135) (x:=(.tmp 8)) (kx:=(.tmp 9)) (s:=1000000) (ps:=[]) (l:=k0_0) (kd:=.lit (.string x1)) (kv:=x1) (kt:=9) (vt:=3) (v0:=0) (by kernel_rfl) (by kernel_rfl) (by kernel_rfl) (by kernel_rfl) (by kernel_rfl) (by kernel_rfl) (by kernel_rfl) (by kernel_rfl))<|mAsk 7 h id fls (fun h=>mRet 8 h) fun h=>mVl 5 (Ahn (ek:=Value.string) (ev:=(fun(x:Int)=>D.lit (.int .i64 x))) (x:=(.tmp 15)) (t:=135) (s:=1000000) (ps:=[]) (l:=k0_0) (by kernel_rfl) (by kernel_rfl) (by kernel_rfl) (by kernel_rfl))<|mOp 6 (Ao0 Ary (fun _=>by kernel_rfl) (ek:=Value.string) (ev:=(fun(x:Int)=>D.lit (.int .i64 x))) (t:=135) (mx:=(.tmp 17)) (kx:=(.tmp 18)) (vx:=(.tmp 19)) (s:=1000000) (ps:=[]) (l:=k0_0) (kd:=.lit (.string x1)) (kv:=x1) (kt:=9) (vt:=3) (v:=(k0_0.length:Int)) (d:=.lit (.int .i64 (k0_0.length:Int))) (by kernel_rfl) (by kernel_rfl) (by kernel_rfl) (by kernel_rfl) (by kernel_rfl) (by kernel_rfl) (by kernel_rfl) (by kernel_rfl) (by kernel_rfl) (Ajk (by kernel_rfl)))<|mRet 5 h
end q71_
namespace q89_
noncomputable def B:Code:=(Tryz.f58.body).getD .skip
def W:List Nat:=[0,1,2,5,6,7,8,9,10,11,12,13,14,15,16,17,18,19,20,21,22,28,29,30,31,65,69,75,76,77,86,87,88,89,114,117,118,119,120,131]
def res(r:tractable_kept×Int):D×List D:=(.tup [.agg [.own (r.1.ids.map (eI .i64)),.lit (.int .i64 r.1.weight)],.lit (.int .i64 r.2)],[])
def C(x0:List (List tractable_entry))(x1:List tractable_kept)(x2:api_Step)(r:tractable_kept×Int):Prop:=Ret env 58 [.sl (x0.map (eSl Aa3)),.sl (x1.map Aa6),.agg [.lit (.int .i64 x2.Kind),.lit (.int .u32 x2.First),.lit (.int .u32 x2.Second)]] (res r).1 (res r).2
def L1(x0:List (List tractable_entry))(x1:List tractable_kept)(x2:api_Step)(z0 z1:List (ByteArray×Int))(z2:List (Int×Int))(z3:Int)(φ:tractable_kept×Int->Prop):Prop:=Pt env 58 W B [1,1,1,0,1,0] [(0,.sl (x0.map (eSl Aa3))),(1,.sl (x1.map Aa6)),(2,.agg [.lit (.int .i64 x2.Kind),.lit (.int .u32 x2.First),.lit (.int .u32 x2.Second)]),(5,.box [.lit (.int .i64 x2.Kind),.lit (.int .u32 x2.First),.lit (.int .u32 x2.Second)]),(6,.box [.own [],.lit (.int .i64 0)]),(8,(eMap Value.string (fun(x:Int)=>D.lit (.int .i64 x)) z0)),(9,(eMap Value.string (fun(x:Int)=>D.lit (.int .i64 x)) z1)),(10,.own (z2.map Abb)),(28,.sl (x0.map (eSl Aa3))),(29,.lit (.int .i64 (x0.length:Int))),(30,.lit (.int .i64 z3))] (Lv env 58 Tryz.f58 3 res φ)
def L2(x1:List tractable_kept)(z0:List (ByteArray×Int))(z1:List (Int×Int))(z2:List (List Int))(z3 z4:Int)(φ:tractable_kept×Int->Prop):Prop:=Pt env 58 W B [1,1,1,1,1,1,1,0,1,0] [(1,.sl (x1.map Aa6)),(6,.box [.own [],.lit (.int .i64 0)]),(9,(eMap Value.string (fun(x:Int)=>D.lit (.int .i64 x)) z0)),(10,.own (z1.map Abb)),(13,.own (z2.map (eOw (eI .i64)))),(75,.lit (.int .i64 z3)),(76,.lit (.int .i64 z4))] (Lv env 58 Tryz.f58 3 res φ)
def L3(x1:List tractable_kept)(z0:List (Int×Int))(z1:List (List Int))(z2:Int)(φ:tractable_kept×Int->Prop):Prop:=Pt env 58 W B [1,1,1,1,1,1,1,1,0,1,0] [(1,.sl (x1.map Aa6)),(6,.box [.own [],.lit (.int .i64 0)]),(10,.own (z0.map Abb)),(13,.own (z1.map (eOw (eI .i64)))),(86,.alias 10 []),(87,.lit (.int .i64 (z0.length:Int))),(88,.lit (.int .i64 z2))] (Lv env 58 Tryz.f58 3 res φ)
def L4(x1:List tractable_kept)(z0:List (Int×Int))(r24:List Int×Int×Int)(z1:List tractable_kept)(z2:Int)(φ:tractable_kept×Int->Prop):Prop:=Pt env 58 W B [1,1,1,1,1,1,1,1,1,1,1,1,0,1,0] [(1,.sl (x1.map Aa6)),(6,.box [.own [],.lit (.int .i64 0)]),(10,.own (z0.map Abb)),(17,.own (r24.1.map (eI .i64))),(20,.own (z1.map Aa6)),(117,.alias 10 []),(118,.lit (.int .i64 (z0.length:Int))),(119,.lit (.int .i64 z2))] (Lv env 58 Tryz.f58 3 res φ)
def L5(x1:List tractable_kept)(z0:List (Int×Int))(r24:List Int×Int×Int)(z1:List tractable_kept)(z2:Int)(φ:tractable_kept×Int->Prop):Prop:=Pt env 58 W B [1,1,1,1,1,1,1,1,1,1,1,1,0,1,0,0,1,1,1] [(1,.sl (x1.map Aa6)),(6,.box [.own [],.lit (.int .i64 0)]),(10,.own (z0.map Abb)),(17,.own (r24.1.map (eI .i64))),(20,.own (z1.map Aa6)),(117,.alias 10 []),(118,.lit (.int .i64 (z0.length:Int))),(119,.lit (.int .i64 z2))] (Lv env 58 Tryz.f58 3 res φ)
theorem L1_step(x0:List (List tractable_entry))(x1:List tractable_kept)(x2:api_Step)(z0 z1:List (ByteArray×Int))(z2:List (Int×Int))(z3:Int)(φ:tractable_kept×Int->Prop)(h:(if z3<(x0.length:Int)then ∃a2,lget x0 z3=some a2/\∃a4,lget a2 0=some a4/\∃r6:ByteArray,q111_.C a4.row x2.First r6/\∃r7:Int×(List (ByteArray×Int)),q71_.C r6 z0 r7/\∃r8:ByteArray,q111_.C a4.row x2.Second r8/\∃r9:Int×(List (ByteArray×Int)),q71_.C r8 z1 r9/\∃a10,lget z2 z3=some a10/\L1 x0 x1 x2 r7.2 r9.2 (lset z2 z3 ⟨r7.1,r9.1⟩) (IntKind.wrap .i64 (z3+1)) φ else(if 60<(z0.length:Int)then φ ((⟨[],0⟩:tractable_kept),3)else(if 60<(z1.length:Int)then φ ((⟨[],0⟩:tractable_kept),3)else(if(x0.length:Int)=0 then φ ((⟨[],0⟩:tractable_kept),0)else(0<=(z0.length:Int)/\(z0.length:Int)*24<=281474976710656)/\L2 x1 z1 z2 (zA z0.length ([]:List Int)) ((zA z0.length ([]:List Int)).length:Int) 0 φ))))):L1 x0 x1 x2 z0 z1 z2 z3 φ:=mIn<|mAsk 2 h dT dF (fun h=>mIx 5 (eSl Aa3) h fun a2 h3 h=>mIx 9 Aa3 h fun a4 h5 h=>mLo 4 h (fun _ h=>h) fun r6 _ h=>Bgn 0 h (fun _ h=>h) fun r7 _ h=>mIxf 2 Aa3 h5<|mLo 4 h (fun _ h=>h) fun r8 _ h=>Bgn 0 h (fun _ h=>h) fun r9 _ h=>mIy 1 Abb h fun a10 h11 h=>mSto 0 Abb (⟨r7.1,r9.1⟩) h11<|mFin 5 h) fun h=>mVl 5 (Ahn (ek:=Value.string) (ev:=(fun(x:Int)=>D.lit (.int .i64 x))) (x:=(.tmp 58)) (t:=135) (s:=8) (ps:=[]) (l:=z0) (by kernel_rfl) (by kernel_rfl) (by kernel_rfl) (by kernel_rfl)) <|
 mAsk 0 h dT dF (fun h=>mRet 12 h) fun h=>mVl 2 (Ahn (ek:=Value.string) (ev:=(fun(x:Int)=>D.lit (.int .i64 x))) (x:=(.tmp 62)) (t:=135) (s:=9) (ps:=[]) (l:=z1) (by kernel_rfl) (by kernel_rfl) (by kernel_rfl) (by kernel_rfl))<|mAsk 0 h dT dF (fun h=>mRet 8 h) fun h=>mLen 6 (eSl Aa3) x0<|mAsk 0 h Aaj Aai (fun h=>mRet 7 h) fun h=>mVl 5 (Ahn (ek:=Value.string) (ev:=(fun(x:Int)=>D.lit (.int .i64 x))) (x:=(.tmp 71)) (t:=135) (s:=8) (ps:=[]) (l:=z0) (by kernel_rfl) (by kernel_rfl) (by kernel_rfl) (by kernel_rfl))<|h.elim fun h12 h=>mVl 0 (Ad9 (t:=140) (x:=(.tmp 72)) (y:=(.tmp 72)) (q:=.i64) (i:=(z0.length:Int)) (et:=34) (z:=.own []) (e:=(eOw (eI .i64))) (a:=([]:List Int)) (k:=24) (by kernel_rfl) (by kernel_rfl) (by kernel_rfl) (by kernel_rfl) (by kernel_rfl) (by kernel_rfl) (by kernel_rfl) (by kernel_rfl) (by kernel_rfl) (by kernel_rfl) h12.1 h12.2)<|mLen 4 (eOw (eI .i64)) (zA z0.length ([]:List Int))<|mFin 2 h
theorem L2_step(x1:List tractable_kept)(z0:List (ByteArray×Int))(z1:List (Int×Int))(z2:List (List Int))(z3 z4:Int)(φ:tractable_kept×Int->Prop)(h:(if z4<z3 then(0<=(z0.length:Int)/\(z0.length:Int)*8<=281474976710656)/\∃a14,lget z2 z4=some a14/\L2 x1 z0 z1 (lset z2 z4 (zA z0.length (0:Int))) z3 (IntKind.wrap .i64 (z4+1)) φ else L3 x1 z1 z2 0 φ)):L2 x1 z0 z1 z2 z3 z4 φ:=mIn<|mAsk 2 h dT dF (fun h=>mVl 11 (Ahn (ek:=Value.string) (ev:=(fun(x:Int)=>D.lit (.int .i64 x))) (x:=(.tmp 81)) (t:=135) (s:=9) (ps:=[]) (l:=z0) (by kernel_rfl) (by kernel_rfl) (by kernel_rfl) (by kernel_rfl))<|h.elim fun h13 h=>mVl 0 (Ad9 (t:=34) (x:=(.tmp 82)) (y:=(.tmp 82)) (q:=.i64) (i:=(z0.length:Int)) (et:=2) (z:=.lit (.int .i64 0)) (e:=(eI .i64)) (a:=(0:Int)) (k:=8) (by kernel_rfl) (by kernel_rfl) (by kernel_rfl) (by kernel_rfl) (by kernel_rfl) (by kernel_rfl) (by kernel_rfl) (by kernel_rfl) (by kernel_rfl) (by kernel_rfl) h13.1 h13.2)<|mIy 0 (eOw (eI .i64)) h fun a14 h15 h=>mSto 0 (eOw (eI .i64)) (zA z0.length (0:Int)) h15<|mFin 5 h) fun h=>mLen 5 Abb z1<|mFin 2 h
theorem L3_step(x1:List tractable_kept)(z0:List (Int×Int))(z1:List (List Int))(z2:Int)(φ:tractable_kept×Int->Prop)(h:(if z2<(z0.length:Int)then ∃a16,lget z0 z2=some a16/\∃a18,lget z1 a16.1=some a18/\∃a20,lget x1 z2=some a20/\∃a22,lget a18 a16.2=some a22/\L3 x1 z0 (lset z1 a16.1 (lset a18 a16.2 a20.weight)) (IntKind.wrap .i64 (z2+1)) φ else ∃r24:List Int×Int×Int,q47_.C z1 r24/\(if r24.2.2=0 then L4 x1 z0 r24 ([]) 0 φ else φ ((⟨[],0⟩:tractable_kept),r24.2.2)))):L3 x1 z0 z1 z2 φ:=mIn<|mAsk 2 h dT dF (fun h=>mIy 5 Abb h fun a16 h17 h=>mLd 0 Abb h17<|mIy 8 (eOw (eI .i64)) h fun a18 h19 h=>mLd 0 (eOw (eI .i64)) h19<|mIx 4 Aa6 h fun a20 h21 h=>h.elim fun a22 h=>h.elim fun h23 h=>mVl 2 (Asy (s:=13) (ps:=[((a16.1.toNat),0)]) (t:=34) (x:=(.tmp 97)) (ix:=(.tmp 99)) (et:=2) (k:=1) (e:=(eI .i64)) (l:=a18) (i:=a16.2) (q:=.i64) (a:=a22) (by kernel_rfl) (by kernel_rfl) (Aql (ps:=[]) (e:=(eOw (eI .i64))) (l:=z1) (n:=(a16.1.toNat)) (a:=a18) (c:=0) (by kernel_rfl) (Abz h19).2 (by kernel_rfl)) (by kernel_rfl) (by kernel_rfl) (by kernel_rfl) h23 (by kernel_rfl))<|mOp 0 (Bmr (t:=2) (x:=(.tmp 105)) (y:=(.tmp 104)) (s:=13) (ps:=[((a16.1.toNat),0)]) (n:=(a16.2.toNat)) (c:=0) (e:=(eI .i64)) (l:=a18) (a:=a22) (b:=a20.weight) (k:=1) (d:=.lit (.int .i64 a20.weight)) (by kernel_rfl) (by kernel_rfl) (by kernel_rfl) (Aql (ps:=[]) (e:=(eOw (eI .i64))) (l:=z1) (n:=(a16.1.toNat)) (a:=a18) (c:=0) (by kernel_rfl) (Abz h19).2 (by kernel_rfl)) (Abz h23).2 (by kernel_rfl) (by kernel_rfl) (by kernel_rfl) (by kernel_rfl) (by kernel_rfl) (Be6 (ps:=[]) (e:=(eOw (eI .i64))) (l:=z1) (n:=(a16.1.toNat)) (a:=a18) (c:=0) (b:=(lset a18 a16.2 a20.weight)) (by kernel_rfl) (Abz h19).2 (by kernel_rfl) (by kernel_rfl) (Ajk (by kernel_rfl)))) <|
 mFin 5 h) fun h=>mCal 5 h (fun _ h=>h) (hr:=by exact(Abk (Abr (s:=13) (ps:=[]) (l:=z1) (e:=(eOw (eI .i64))) (e':=(eSl (eI .i64))) (Fzn.ow (fun _=>rfl)) (by kernel_rfl)) Ace)) (hf:=(fun _=>Aah (Ach (Aa7 (Aam (e:=(eI .i64)) (fun _=>rfl)) (Aa7 rfl (Aa7 rfl Aax)))) rfl)) fun r24 _ h=>Ac1 10 h Abv Abu (fun h=>mRet 8 h) fun h=>mLen 8 Abb z0<|mFin 2 h
theorem L4_step(x1:List tractable_kept)(z0:List (Int×Int))(r24:List Int×Int×Int)(z1:List tractable_kept)(z2:Int)(φ:tractable_kept×Int->Prop)(h:(if z2<(z0.length:Int)then ∃a25,lget z0 z2=some a25/\∃a27,lget r24.1 a25.1=some a27/\(if a27=a25.2 then ∃a29,lget x1 z2=some a29/\(z1.length+1)*32<=140737488355328/\L5 x1 z0 r24 (z1++[a29]) z2 φ else L5 x1 z0 r24 z1 z2 φ)else ∃r32:tractable_kept,q107_.C z1 r32/\φ (r32,0))):L4 x1 z0 r24 z1 z2 φ:=mIn<|mAsk 2 h dT dF (fun h=>mIy 5 Abb h fun a25 h26 h=>mLd 0 Abb h26<|mIy 8 (eI .i64) h fun a27 h28 h=>mLd 0 (eI .i64) h28<|mAsk 2 h Aaj Aai (fun h=>mIx 6 Aa6 h fun a29 h30 h=>mApp 2 Aa6 z1 ([a29]) h fun h=>mFin 2 h) fun h=>mFin 3 h) fun h=>mCal 5 h (fun _ h=>h) (hr:=by exact(Abk (Abr (s:=20) (ps:=[]) (l:=z1) (e:=Aa6) (e':=Aa6) (fun _=>rfl) (by kernel_rfl)) Ace)) (hf:=(fun _=>Aah (Ae7 (Aa7 (Aam (e:=(eI .i64)) (fun _=>rfl)) (Aa7 rfl Aax))) rfl)) fun r32 _ h=>mRet 3 h
theorem L5_step(x1:List tractable_kept)(z0:List (Int×Int))(r24:List Int×Int×Int)(z1:List tractable_kept)(z2:Int)(φ:tractable_kept×Int->Prop)(h:L4 x1 z0 r24 z1 (IntKind.wrap .i64 (z2+1)) φ):L5 x1 z0 r24 z1 z2 φ:=mIn<|mFin 4 h
theorem enter(x0:List (List tractable_entry))(x1:List tractable_kept)(x2:api_Step)(φ:tractable_kept×Int->Prop)(h:(0<=(x0.length:Int)/\(x0.length:Int)*16<=281474976710656)/\L1 x0 x1 x2 ([]) ([]) (zA x0.length (⟨0,0⟩:(Int×Int))) 0 φ):∃r,φ r/\C x0 x1 x2 r:=mEnt (fd:=Tryz.f58) (body:=B) (V:=W) (res:=res)<|mLen 13 (eSl Aa3) x0<|h.elim fun h1 h=>mVl 0 (Ad9 (t:=137) (x:=(.tmp 26)) (y:=(.tmp 26)) (q:=.i64) (i:=(x0.length:Int)) (et:=139) (z:=.agg [.lit (.int .i64 0),.lit (.int .i64 0)]) (e:=Abb) (a:=(⟨0,0⟩:(Int×Int))) (k:=16) (by kernel_rfl) (by kernel_rfl) (by kernel_rfl) (by kernel_rfl) (by kernel_rfl) (by kernel_rfl) (by kernel_rfl) (by kernel_rfl) (by kernel_rfl) (by kernel_rfl) h1.1 h1.2)<|mLen 4 (eSl Aa3) x0<|mFin 2 h
end q89_
namespace q31_
noncomputable def B:Code:=(Tryz.f144.body).getD .skip
def W:List Nat:=[0,2]
def res(r:Int):D×List D:=(.lit (.int .i64 r),[])
def C(x0 r:Int):Prop:=Ret env 144 [.lit (.int .u32 x0)] (res r).1 (res r).2
theorem enter(x0:Int)(φ:Int->Prop)(h:∃b1,((0:Int)<=(shrw .u32 x0 24)/\(⟨#[0,1,1,2,1,2,2,3,1,2,2,3,2,3,3,4,1,2,2,3,2,3,3,4,2,3,3,4,3,4,4,5,1,2,2,3,2,3,3,4,2,3,3,4,3,4,4,5,2,3,3,4,3,4,4,5,3,4,4,5,4,5,5,6,1,2,2,3,2,3,3,4,2,3,3,4,3,4,4,5,2,3,3,4,3,4,4,5,3,4,4,5,4,5,5,6,2,3,3,4,3,4,4,5,3,4,4,5,4,5,5,6,3,4,4,5,4,5,5,6,4,5,5,6,5,6,6,7,1,2,2,3,2,3,3,4,2,3,3,4,3,4,4,5,2,3,3,4,3,4,4,5,3,4,4,5,4,5,5,6,2,3,3,4,3,4,4,5,3,4,4,5,4,5,5,6,3,4,4,5,4,5,5,6,4,5,5,6,5,6,6,7,2,3,3,4,3,4,4,5,3,4,4,5,4,5,5,6,3,4,4,5,4,5,5,6,4,5,5,6,5,6,6,7,3,4,4,5,4,5,5,6,4,5,5,6,5,6,6,7,4,5,5,6,5,6,6,7,5,6,6,7,6,7,7,8]⟩:ByteArray)[(shrw .u32 x0 24).toNat]?=some b1)/\∃b4,((0:Int)<=(bAnd .u32 (shrw .u32 x0 16) 255)/\(⟨#[0,1,1,2,1,2,2,3,1,2,2,3,2,3,3,4,1,2,2,3,2,3,3,4,2,3,3,4,3,4,4,5,1,2,2,3,2,3,3,4,2,3,3,4,3,4,4,5,2,3,3,4,3,4,4,5,3,4,4,5,4,5,5,6,1,2,2,3,2,3,3,4,2,3,3,4,3,4,4,5,2,3,3,4,3,4,4,5,3,4,4,5,4,5,5,6,2,3,3,4,3,4,4,5,3,4,4,5,4,5,5,6,3,4,4,5,4,5,5,6,4,5,5,6,5,6,6,7,1,2,2,3,2,3,3,4,2,3,3,4,3,4,4,5,2,3,3,4,3,4,4,5,3,4,4,5,4,5,5,6,2,3,3,4,3,4,4,5,3,4,4,5,4,5,5,6,3,4,4,5,4,5,5,6,4,5,5,6,5,6,6,7,2,3,3,4,3,4,4,5,3,4,4,5,4,5,5,6,3,4,4,5,4,5,5,6,4,5,5,6,5,6,6,7,3,4,4,5,4,5,5,6,4,5,5,6,5,6,6,7,4,5,5,6,5,6,6,7,5,6,6,7,6,7,7,8]⟩:ByteArray)[(bAnd .u32 (shrw .u32 x0 16) 255).toNat]?=some b4)/\∃b7,((0:Int)<=(bAnd .u32 (shrw .u32 x0 8) 255)/\(⟨#[0,1,1,2,1,2,2,3,1,2,2,3,2,3,3,4,1,2,2,3,2,3,3,4,2,3,3,4,3,4,4,5,1,2,2,3,2,3,3,4,2,3,3,4,3,4,4,5,2,3,3,4,3,4,4,5,3,4,4,5,4,5,5,6,1,2,2,3,2,3,3,4,2,3,3,4,3,4,4,5,2,3,3,4,3,4,4,5,3,4,4,5,4,5,5,6,2,3,3,4,3,4,4,5,3,4,4,5,4,5,5,6,3,4,4,5,4,5,5,6,4,5,5,6,5,6,6,7,1,2,2,3,2,3,3,4,2,3,3,4,3,4,4,5,2,3,3,4,3,4,4,5,3,4,4,5,4,5,5,6,2,3,3,4,3,4,4,5,3,4,4,5,4,5,5,6,3,4,4,5,4,5,5,6,4,5,5,6,5,6,6,7,2,3,3,4,3,4,4,5,3,4,4,5,4,5,5,6,3,4,4,5,4,5,5,6,4,5,5,6,5,6,6,7,3,4,4,5,4,5,5,6,4,5,5,6,5,6,6,7,4,5,5,6,5,6,6,7,5,6,6,7,6,7,7,8]⟩:ByteArray)[(bAnd .u32 (shrw .u32 x0 8) 255).toNat]?=some b7) /\
 ∃b10,((0:Int)<=(bAnd .u32 x0 255)/\(⟨#[0,1,1,2,1,2,2,3,1,2,2,3,2,3,3,4,1,2,2,3,2,3,3,4,2,3,3,4,3,4,4,5,1,2,2,3,2,3,3,4,2,3,3,4,3,4,4,5,2,3,3,4,3,4,4,5,3,4,4,5,4,5,5,6,1,2,2,3,2,3,3,4,2,3,3,4,3,4,4,5,2,3,3,4,3,4,4,5,3,4,4,5,4,5,5,6,2,3,3,4,3,4,4,5,3,4,4,5,4,5,5,6,3,4,4,5,4,5,5,6,4,5,5,6,5,6,6,7,1,2,2,3,2,3,3,4,2,3,3,4,3,4,4,5,2,3,3,4,3,4,4,5,3,4,4,5,4,5,5,6,2,3,3,4,3,4,4,5,3,4,4,5,4,5,5,6,3,4,4,5,4,5,5,6,4,5,5,6,5,6,6,7,2,3,3,4,3,4,4,5,3,4,4,5,4,5,5,6,3,4,4,5,4,5,5,6,4,5,5,6,5,6,6,7,3,4,4,5,4,5,5,6,4,5,5,6,5,6,6,7,4,5,5,6,5,6,6,7,5,6,6,7,6,7,7,8]⟩:ByteArray)[(bAnd .u32 x0 255).toNat]?=some b10)/\φ (IntKind.wrap .i64 (IntKind.wrap .u8 ((IntKind.wrap .u8 ((IntKind.wrap .u8 ((u8i b1)+(u8i b4)))+(u8i b7)))+(u8i b10))))):∃r,φ r/\C x0 r:=mEnt (fd:=Tryz.f144) (body:=B) (V:=W) (res:=res)<|mSt 6 h fun b1 h=>mSt 3 h fun b4 h=>mSt 4 h fun b7 h=>mSt 3 h fun b10 h=>mRet 4 h
end q31_
namespace q122_
noncomputable def B:Code:=(Tryz.f129.body).getD .skip
def W:List Nat:=[0,2]
def res(r:Int):D×List D:=(.lit (.int .i64 r),[])
def C(x0 r:Int):Prop:=Ret env 129 [.lit (.int .u32 x0)] (res r).1 (res r).2
theorem enter(x0:Int)(φ:Int->Prop)(h:∃r1:Int,q31_.C x0 r1/\φ r1):∃r,φ r/\C x0 r:=mEnt (fd:=Tryz.f129) (body:=B) (V:=W) (res:=res)<|mCal 5 h (fun _ h=>h) fun r1 _ h=>mRet 2 h
end q122_
namespace q54_
noncomputable def B:Code:=(Tryz.f145.body).getD .skip
def W:List Nat:=[0,2]
def res(r:Bool):D×List D:=(.lit (.bool r),[])
def C(x0:Int)(r:Bool):Prop:=Ret env 145 [.lit (.int .u32 x0)] (res r).1 (res r).2
theorem enter(x0:Int)(φ:Bool->Prop)(h:φ (x0 != x0)):∃r,φ r/\C x0 r:=mEnt (fd:=Tryz.f145) (body:=B) (V:=W) (res:=res)<|mRet 9 h
end q54_
namespace q38_
noncomputable def B:Code:=(Tryz.f130.body).getD .skip
def W:List Nat:=[0,1,4,5,6,11,12,13,16,19]
def res(r:Int):D×List D:=(.lit (.int .i64 r),[])
def C(x0 x1 r:Int):Prop:=Ret env 130 [.lit (.int .u32 x0),.lit (.int .u32 x1)] (res r).1 (res r).2
theorem enter(x0 x1:Int)(φ:Int->Prop)(h:∃r1:Bool,q54_.C x0 r1/\∃r2:Bool,q54_.C x1 r2/\(if r1=true then(if r2=true then φ 0 else φ (-1))else(if r2=true then φ 1 else(if x0<x1 then φ (-1)else(if x1<x0 then φ 1 else φ 0))))):∃r,φ r/\C x0 x1 r:=mEnt (fd:=Tryz.f130) (body:=B) (V:=W) (res:=res)<|mCal 5 h (fun _ h=>h) fun r1 _ h=>mCal 4 h (fun _ h=>h) fun r2 _ h=>mAsk 3 h id fls (fun h=>mAsk 3 h id fls (fun h=>mRet 5 h) fun h=>mRet 6 h) fun h=>mAsk 4 h id fls (fun h=>mRet 5 h) fun h=>mAsk 6 h dT dF (fun h=>mRet 5 h) fun h=>mAsk 6 h dT dF (fun h=>mRet 5 h) fun h=>mRet 6 h
end q38_
namespace q113_
noncomputable def B:Code:=(Tryz.f143.body).getD .skip
def W:List Nat:=[0,2]
def res(r:Bool):D×List D:=(.lit (.bool r),[])
def C(x0:Int)(r:Bool):Prop:=Ret env 143 [.lit (.int .i64 x0)] (res r).1 (res r).2
theorem enter(x0:Int)(φ:Bool->Prop)(h:φ (x0 != x0)):∃r,φ r/\C x0 r:=mEnt (fd:=Tryz.f143) (body:=B) (V:=W) (res:=res)<|mRet 9 h
end q113_
namespace q90_
noncomputable def B:Code:=(Tryz.f128.body).getD .skip
def W:List Nat:=[0,1,4,5,6,11,12,13,16,19]
def res(r:Int):D×List D:=(.lit (.int .i64 r),[])
def C(x0 x1 r:Int):Prop:=Ret env 128 [.lit (.int .i64 x0),.lit (.int .i64 x1)] (res r).1 (res r).2
theorem enter(x0 x1:Int)(φ:Int->Prop)(h:∃r1:Bool,q113_.C x0 r1/\∃r2:Bool,q113_.C x1 r2/\(if r1=true then(if r2=true then φ 0 else φ (-1))else(if r2=true then φ 1 else(if x0<x1 then φ (-1)else(if x1<x0 then φ 1 else φ 0))))):∃r,φ r/\C x0 x1 r:=mEnt (fd:=Tryz.f128) (body:=B) (V:=W) (res:=res)<|mCal 5 h (fun _ h=>h) fun r1 _ h=>mCal 4 h (fun _ h=>h) fun r2 _ h=>mAsk 3 h id fls (fun h=>mAsk 3 h id fls (fun h=>mRet 5 h) fun h=>mRet 6 h) fun h=>mAsk 4 h id fls (fun h=>mRet 5 h) fun h=>mAsk 6 h dT dF (fun h=>mRet 5 h) fun h=>mAsk 6 h dT dF (fun h=>mRet 5 h) fun h=>mRet 6 h
end q90_
namespace q125_
noncomputable def B:Code:=(Tryz.f127.body).getD .skip
def W:List Nat:=[0,2,3,5,6,7,8,9,14]
def res(r:Int):D×List D:=(.lit (.int .i64 r),[])
def C(x0:List Int)(r:Int):Prop:=Ret env 127 [.sl (x0.map (eI .i64))] (res r).1 (res r).2
def L1(x0:List Int)(z0:Int)(φ:Int->Prop):Prop:=Pt env 127 W B [1,1,0,1,0] [(0,.sl (x0.map (eI .i64))),(3,.lit (.int .i64 0)),(6,.sl (x0.map (eI .i64))),(7,.lit (.int .i64 (x0.length:Int))),(8,.lit (.int .i64 z0))] (Lv env 127 Tryz.f127 1 res φ)
theorem L1_step(x0:List Int)(z0:Int)(φ:Int->Prop)(h:(if z0<(x0.length:Int)then ∃a1,lget x0 z0=some a1/\(if a1=0 then L1 x0 (IntKind.wrap .i64 (z0+1)) φ else φ a1)else φ 0)):L1 x0 z0 φ:=mIn<|mAsk 2 h dT dF (fun h=>mIx 4 (eI .i64) h fun a1 h2 h=>Ac1 6 h Abv Abu (fun h=>mRet 6 h) fun h=>mFin 7 h) fun h=>mRet 7 h
theorem enter(x0:List Int)(φ:Int->Prop)(h:L1 x0 0 φ):∃r,φ r/\C x0 r:=mEnt (fd:=Tryz.f127) (body:=B) (V:=W) (res:=res)<|mLen 8 (eI .i64) x0<|mFin 2 h
end q125_
namespace q91_
noncomputable def B:Code:=(Tryz.f114.body).getD .skip
def W:List Nat:=[0,1,4]
def res(r:Int):D×List D:=(.lit (.int .i64 r),[])
def C(x0 x1 r:Int):Prop:=Ret env 114 [.lit (.int .u32 x0),.lit (.int .u32 x1)] (res r).1 (res r).2
theorem enter(x0 x1:Int)(φ:Int->Prop)(h:∃r1:Int,q122_.C x0 r1/\∃r2:Int,q122_.C x1 r2/\∃r3:Int,q90_.C r1 r2 r3/\∃r4:Int,q38_.C x0 x1 r4/\∃r5:Int,q125_.C ([r3,r4]) r5/\φ r5):∃r,φ r/\C x0 x1 r:=mEnt (fd:=Tryz.f114) (body:=B) (V:=W) (res:=res)<|mCal 5 h (fun _ h=>h) fun r1 _ h=>mCal 1 h (fun _ h=>h) fun r2 _ h=>mCal 0 h (fun _ h=>h) fun r3 _ h=>mCal 2 h (fun _ h=>h) fun r4 _ h=>mCal 1 h (fun _ h=>h) (hr:=by exact(Abk (Abr (s:=13) (ps:=[]) (l:=[r3,r4]) (e:=(eI .i64)) (e':=(eI .i64)) (fun _=>rfl) (by kernel_rfl)) Ace)) fun r5 _ h=>mRet 2 h
end q91_
namespace q9_
noncomputable def B:Code:=(Tryz.f133.body).getD .skip
def W:List Nat:=[0,1,2,3,8,9,14,34,1000000]
def res(r:List Int):D×List D:=(.tup [],[.own (r.map (eI .u32))])
def C(x1 x2:Int)(k0_0 r:List Int):Prop:=Ret env 133 [.own (k0_0.map (eI .u32)),.lit (.int .i64 x1),.lit (.int .i64 x2),.fn 114 []] (res r).1 (res r).2
def L1(x1 x2 z0:Int)(k0_0:List Int)(φ:List Int->Prop):Prop:=Pt env 133 W B [1,0] [(0,.alias 1000000 []),(1,.lit (.int .i64 x1)),(2,.lit (.int .i64 x2)),(3,.fn 114 []),(8,.lit (.int .i64 z0)),(1000000,.own (k0_0.map (eI .u32)))] (Lv env 133 Tryz.f133 4 res φ)
def L2(x1 x2:Int)(z0 z1:Int)(k0_0:List Int)(φ:List Int->Prop):Prop:=Pt env 133 W B [1,0,0,1,0,0,1,0] [(0,.alias 1000000 []),(1,.lit (.int .i64 x1)),(2,.lit (.int .i64 x2)),(3,.fn 114 []),(8,.lit (.int .i64 z0)),(9,.lit (.int .i64 z1)),(1000000,.own (k0_0.map (eI .u32)))] (Lv env 133 Tryz.f133 4 res φ)
def L3(x1 x2 z0:Int)(k0_0:List Int)(φ:List Int->Prop):Prop:=Pt env 133 W B [1,0,0,1,1] [(0,.alias 1000000 []),(1,.lit (.int .i64 x1)),(2,.lit (.int .i64 x2)),(3,.fn 114 []),(8,.lit (.int .i64 z0)),(1000000,.own (k0_0.map (eI .u32)))] (Lv env 133 Tryz.f133 4 res φ)
theorem L1_step(x1 x2 z0:Int)(k0_0:List Int)(φ:List Int->Prop)(h:(if z0<x2 then L2 x1 x2 z0 z0 k0_0 φ else φ k0_0)):L1 x1 x2 z0 k0_0 φ:=mIn<|mAsk 4 h dT dF (fun h=>mFin 7 h) fun h=>mRet 2 h
theorem L2_step(x1 x2:Int)(z0 z1:Int)(k0_0:List Int)(φ:List Int->Prop)(h:(if x1<z1 then ∃a1,lget k0_0 z1=some a1/\∃a3,lget k0_0 (IntKind.wrap .i64 (z1-1))=some a3/\∃r5:Int,q91_.C a1 a3 r5/\(if r5<0 then ∃a6,lget (lset k0_0 z1 a3) (IntKind.wrap .i64 (z1-1))=some a6/\L2 x1 x2 z0 (IntKind.wrap .i64 (z1-1)) (lset (lset k0_0 z1 a3) (IntKind.wrap .i64 (z1-1)) a1) φ else L3 x1 x2 z0 k0_0 φ)else L3 x1 x2 z0 k0_0 φ)):L2 x1 x2 z0 z1 k0_0 φ:=mIn<|mAsk 4 h dT dF (fun h=>mIy 4 (eI .u32) h fun a1 h2 h=>mLd 0 (eI .u32) h2<|mIy 3 (eI .u32) h fun a3 h4 h=>mLd 0 (eI .u32) h4<|mCal 0 h (fun _ h=>h) fun r5 _ h=>mAsk 0 h dT dF (fun h=>mIyf 13 (eI .u32) h4<|mLd 0 (eI .u32) h4<|mIyf 2 (eI .u32) h2<|mLd 0 (eI .u32) h2<|mIyf 0 (eI .u32) h2<|Bgo 0 (eI .u32) a3 h2<|mIy 0 (eI .u32) h fun a6 h7 h=>mSto 0 (eI .u32) a1 h7<|mFin 6 h) fun h=>mFin 4 h) fun h=>mFin 17 h
theorem L3_step(x1 x2 z0:Int)(k0_0:List Int)(φ:List Int->Prop)(h:L1 x1 x2 (IntKind.wrap .i64 (z0+1)) k0_0 φ):L3 x1 x2 z0 k0_0 φ:=mIn<|mFin 5 h
theorem enter(x1 x2:Int)(k0_0:List Int)(φ:List Int->Prop)(h:L1 x1 x2 (IntKind.wrap .i64 (x1+1)) k0_0 φ):∃r,φ r/\C x1 x2 k0_0 r:=mEnt (fd:=Tryz.f133) (body:=B) (V:=W) (res:=res)<|mFin 5 h
end q9_
namespace q92_
noncomputable def B:Code:=(Tryz.f142.body).getD .skip
def W:List Nat:=[0,2,4,8,14]
def res(r:Int):D×List D:=(.lit (.int .i64 r),[])
def C(x0 r:Int):Prop:=Ret env 142 [.lit (.int .u64 x0)] (res r).1 (res r).2
def L3(z0 z1:Int)(φ:Int->Prop):Prop:=Pt env 142 W B [1,1,0,0] [(0,.lit (.int .u64 z0)),(2,.lit (.int .i64 z1))] (Lv env 142 Tryz.f142 1 res φ)
def L2(z0 z1:Int)(φ:Int->Prop):Prop:=Pt env 142 W B [1,1,1,0,0] [(0,.lit (.int .u64 z0)),(2,.lit (.int .i64 z1))] (Lv env 142 Tryz.f142 1 res φ)
def L1(z0 z1:Int)(φ:Int->Prop):Prop:=Pt env 142 W B [1,1,1,1,0] [(0,.lit (.int .u64 z0)),(2,.lit (.int .i64 z1))] (Lv env 142 Tryz.f142 1 res φ)
theorem L3_step(z0 z1:Int)(φ:Int->Prop)(h:(if 65536<=z0 then L2 (shrw .u64 z0 16) (IntKind.wrap .i64 (z1+16)) φ else L2 z0 z1 φ)):L3 z0 z1 φ:=mIn<|mAsk 2 h dT dF (fun h=>mFin 12 h) fun h=>mFin 3 h
theorem L2_step(z0 z1:Int)(φ:Int->Prop)(h:(if 256<=z0 then L1 (shrw .u64 z0 8) (IntKind.wrap .i64 (z1+8)) φ else L1 z0 z1 φ)):L2 z0 z1 φ:=mIn<|mAsk 2 h dT dF (fun h=>mFin 12 h) fun h=>mFin 3 h
theorem L1_step(z0 z1:Int)(φ:Int->Prop)(h:∃b1,((0:Int)<=(IntKind.wrap .u8 z0)/\(⟨#[0,1,2,2,3,3,3,3,4,4,4,4,4,4,4,4,5,5,5,5,5,5,5,5,5,5,5,5,5,5,5,5,6,6,6,6,6,6,6,6,6,6,6,6,6,6,6,6,6,6,6,6,6,6,6,6,6,6,6,6,6,6,6,6,7,7,7,7,7,7,7,7,7,7,7,7,7,7,7,7,7,7,7,7,7,7,7,7,7,7,7,7,7,7,7,7,7,7,7,7,7,7,7,7,7,7,7,7,7,7,7,7,7,7,7,7,7,7,7,7,7,7,7,7,7,7,7,7,8,8,8,8,8,8,8,8,8,8,8,8,8,8,8,8,8,8,8,8,8,8,8,8,8,8,8,8,8,8,8,8,8,8,8,8,8,8,8,8,8,8,8,8,8,8,8,8,8,8,8,8,8,8,8,8,8,8,8,8,8,8,8,8,8,8,8,8,8,8,8,8,8,8,8,8,8,8,8,8,8,8,8,8,8,8,8,8,8,8,8,8,8,8,8,8,8,8,8,8,8,8,8,8,8,8,8,8,8,8,8,8,8,8,8,8,8,8,8,8,8,8,8,8,8,8,8,8]⟩:ByteArray)[(IntKind.wrap .u8 z0).toNat]?=some b1)/\φ (IntKind.wrap .i64 (z1+(IntKind.wrap .i64 (u8i b1))))):L1 z0 z1 φ:=mIn<|mSt 4 h fun b1 h=>mRet 4 h
theorem enter(x0:Int)(φ:Int->Prop)(h:(if 4294967296<=x0 then L3 (shrw .u64 x0 32) 32 φ else L3 x0 0 φ)):∃r,φ r/\C x0 r:=mEnt (fd:=Tryz.f142) (body:=B) (V:=W) (res:=res)<|mAsk 5 h dT dF (fun h=>mFin 10 h) fun h=>mFin 3 h
end q92_
namespace q114_
noncomputable def B:Code:=(Tryz.f126.body).getD .skip
def W:List Nat:=[0,2]
def res(r:Int):D×List D:=(.lit (.int .i64 r),[])
def C(x0 r:Int):Prop:=Ret env 126 [.lit (.int .u64 x0)] (res r).1 (res r).2
theorem enter(x0:Int)(φ:Int->Prop)(h:∃r1:Int,q92_.C x0 r1/\φ r1):∃r,φ r/\C x0 r:=mEnt (fd:=Tryz.f126) (body:=B) (V:=W) (res:=res)<|mCal 7 h (fun _ h=>h) fun r1 _ h=>mRet 2 h
end q114_
namespace q17_
noncomputable def B:Code:=(Tryz.f125.body).getD .skip
def W:List Nat:=[0,1,2,3,4,10,11,12,13,14,15,16,17,18,19,20,25,32,39,56,75,80,97,125,1000000]
def res(r:List Int):D×List D:=(.tup [],[.own (r.map (eI .u32))])
def C(x1 x2 x3:Int)(k0_0 r:List Int):Prop:=Ret env 125 [.own (k0_0.map (eI .u32)),.lit (.int .i64 x1),.lit (.int .i64 x2),.lit (.int .i64 x3),.fn 114 []] (res r).1 (res r).2
def L1(x1 x2 x3:Int)(k0_0:List Int)(φ:List Int->Prop):Prop:=Pt env 125 W B [1,1,0] [(0,.alias 1000000 []),(1,.lit (.int .i64 x1)),(2,.lit (.int .i64 x2)),(3,.lit (.int .i64 x3)),(4,.fn 114 []),(10,.lit (.bool true)),(11,.lit (.bool true)),(1000000,.own (k0_0.map (eI .u32)))] (Lv env 125 Tryz.f125 5 res φ)
theorem L1_step(x1 x2 x3:Int)(k0_0:List Int)(φ:List Int->Prop)(h:(if(IntKind.wrap .i64 (x2-x1))<=12 then ∃r1:List Int,q9_.C x1 x2 k0_0 r1/\φ r1 else(if x3=0 then False else False))):L1 x1 x2 x3 k0_0 φ:=mIn<|mAsk 9 h dT dF (fun h=>mCal 7 h (fun _ h=>h) (hf:=(fun _=>Anf (Ach Aax) (Aam (e:=(eI .u32)) (fun _=>rfl)))) fun r1 _ h=>mRet 1 h) fun h=>mAsk 5 h Aaj Aai (fun h=>h.elim) fun h=>h.elim
theorem enter(x1 x2 x3:Int)(k0_0:List Int)(φ:List Int->Prop)(h:L1 x1 x2 x3 k0_0 φ):∃r,φ r/\C x1 x2 x3 k0_0 r:=mEnt (fd:=Tryz.f125) (body:=B) (V:=W) (res:=res)<|mFin 6 h
end q17_
namespace q15_
noncomputable def B:Code:=(Tryz.f113.body).getD .skip
def W:List Nat:=[0,1,4,1000000]
def res(r:List Int):D×List D:=(.tup [],[.own (r.map (eI .u32))])
def C(k0_0 r:List Int):Prop:=Ret env 113 [.own (k0_0.map (eI .u32)),.fn 114 []] (res r).1 (res r).2
theorem enter(k0_0:List Int)(φ:List Int->Prop)(h:∃r1:Int,q114_.C (IntKind.wrap .u64 (k0_0.length:Int)) r1/\∃r2:List Int,q17_.C 0 (k0_0.length:Int) r1 k0_0 r2/\φ r2):∃r,φ r/\C k0_0 r:=mEnt (fd:=Tryz.f113) (body:=B) (V:=W) (res:=res)<|mLen 2 (eI .u32) k0_0<|mCal 7 h (fun _ h=>h) fun r1 _ h=>mCal 1 h (fun _ h=>h) (hf:=(fun _=>Anf (Ach Aax) (Aam (e:=(eI .u32)) (fun _=>rfl)))) fun r2 _ h=>mRet 0 h
end q15_
namespace q19_
noncomputable def B:Code:=(Tryz.f115.body).getD .skip
def W:List Nat:=[0,2,3,4,5,8,13,25,32,44]
def res(r:(List Int×Bool)):D×List D:=((sown (r.1.map (eI .u32)) r.2),[])
def C(k0_0:List Int)(r:(List Int×Bool)):Prop:=Ret env 115 [.own (k0_0.map (eI .u32))] (res r).1 (res r).2
def L1(k0_0:List Int)(z0:Int)(φ:(List Int×Bool)->Prop):Prop:=Pt env 115 W B [1,1,0,1,0] [(0,.own (k0_0.map (eI .u32))),(3,.lit (.int .i64 z0))] (Lv env 115 Tryz.f115 1 res φ)
def L2(k0_0:List Int)(z0:Int)(y4_o_L2 y4_n_L2:Nat)(z1:Int)(φ:(List Int×Bool)->Prop):Prop:=Pt env 115 W B [1,1,0,1,0,0,1,0,0,1,0,1,0,1,0] [(0,.own (k0_0.map (eI .u32))),(3,.lit (.int .i64 z0)),(4,.sub 0 [] y4_o_L2 y4_n_L2),(5,.lit (.int .i64 z1))] (Lv env 115 Tryz.f115 1 res φ)
def L3(z0:List Int)(z1:Int)(y4_o_L2 y4_n_L2:Nat)(z2:Int)(φ:(List Int×Bool)->Prop):Prop:=Pt env 115 W B [1,1,0,1,0,0,1,0,0,1,0,1,0,1,0,0,1,1] [(0,.own (z0.map (eI .u32))),(3,.lit (.int .i64 z1)),(4,.sub 0 [] y4_o_L2 y4_n_L2),(5,.lit (.int .i64 z2))] (Lv env 115 Tryz.f115 1 res φ)
theorem L1_step(k0_0:List Int)(z0:Int)(φ:(List Int×Bool)->Prop)(h:(if z0<(k0_0.length:Int)then ∃a1,lget k0_0 z0=some a1/\∃a3,lget k0_0 (IntKind.wrap .i64 (z0-1))=some a3/\(if a1=a3 then 0<=z0/\(z0.toNat<=k0_0.length/\k0_0.length<=k0_0.length)/\L2 k0_0 z0 z0.toNat (k0_0.length-z0.toNat) 1 φ else L1 k0_0 (IntKind.wrap .i64 (z0+1)) φ)else φ (⟨k0_0,true⟩))):L1 k0_0 z0 φ:=mIn<|mLen 4 (eI .u32) k0_0<|mAsk 0 h dT dF (fun h=>mIy 6 (eI .u32) h fun a1 h2 h=>mLd 0 (eI .u32) h2<|mIy 3 (eI .u32) h fun a3 h4 h=>mLd 0 (eI .u32) h4<|mAsk 0 h Aaj Aai (fun h=>h.elim fun h5 h=>h.elim fun h6 h=>mVl 5 (Ak8 (s:=0) (ps:=[]) (t:=127) (x:=(.tmp 26)) (lo:=(some (.tmp 27))) (hi:=none) (lo':=some z0.toNat) (hi':=none) (e:=(eI .u32)) (l:=k0_0) (et:=49) (k:=1) (by kernel_rfl) (by kernel_rfl) (Afx (by kernel_rfl)) (Aea (i:=z0) (q:=.i64) (by kernel_rfl) h5) Ae9 (by kernel_rfl) (by kernel_rfl) (fun _=>rfl) (by kernel_rfl) h6.1 h6.2)<|mFin 5 h) fun h=>mFin 8 h) fun h=>mRet 7 h
theorem L2_step(k0_0:List Int)(z0:Int)(y4_o_L2 y4_n_L2:Nat)(z1:Int)(φ:(List Int×Bool)->Prop)(h:y4_o_L2+y4_n_L2<=k0_0.length/\(if z1<((zB y4_n_L2 (zD y4_o_L2 k0_0)).length:Int)then ∃a10,lget k0_0 ((y4_o_L2:Int)+z1)=some a10/\(0<=z1/\z1<((y4_n_L2:Nat):Int))/\y4_o_L2+y4_n_L2<=k0_0.length/\∃a14,lget k0_0 ((y4_o_L2:Int)+(IntKind.wrap .i64 (z1-1)))=some a14/\(0<=(IntKind.wrap .i64 (z1-1))/\(IntKind.wrap .i64 (z1-1))<((y4_n_L2:Nat):Int))/\y4_o_L2+y4_n_L2<=k0_0.length/\(if a10=a14 then L3 k0_0 z0 y4_o_L2 y4_n_L2 z1 φ else(0<=z1/\z1<((y4_n_L2:Nat):Int))/\y4_o_L2+y4_n_L2<=k0_0.length/\∃a18,lget k0_0 z0=some a18/\L3 (lset k0_0 z0 a10) (IntKind.wrap .i64 (z0+1)) y4_o_L2 y4_n_L2 z1 φ)else 0<=z0/\(z0.toNat<=k0_0.length/\k0_0.length<=k0_0.length)/\z0.toNat+(k0_0.length-z0.toNat)<=k0_0.length/\0<=z0/\z0.toNat+(k0_0.length-z0.toNat)<=k0_0.length/\z0.toNat<=k0_0.length/\(z0.toNat+(k0_0.length-z0.toNat)<=k0_0.length/\z0.toNat<=k0_0.length/\z0.toNat<=z0.toNat)/\φ (⟨(zB z0.toNat k0_0),(!((zB z0.toNat k0_0).isEmpty))⟩))):L2 k0_0 z0 y4_o_L2 y4_n_L2 z1 φ:=mIn<|h.elim fun h7 h=>mVl 4 (Bah (x:=(.tmp 30)) (t:=127) (et:=49) (d:=.sub 0 [] y4_o_L2 y4_n_L2) (e:=(eI .u32)) (l:=(zB y4_n_L2 (zD y4_o_L2 k0_0))) (by kernel_rfl) (by kernel_rfl) (Amy (s:=0) (ps:=[]) (l:=k0_0) (e:=(eI .u32)) (by kernel_rfl) h7) (by kernel_rfl))<|mAsk 0 h dT dF (fun h=>h.elim fun a10 h=>h.elim fun h11 h=>h.elim fun h9 h=>h.elim fun h8 h=>mVl 6 (Aiy (s:=0) (ps:=[]) (off:=y4_o_L2) (len:=y4_n_L2) (t:=127) (x:=(.tmp 35)) (ix:=(.tmp 36)) (et:=49) (k:=1) (e:=(eI .u32)) (l:=k0_0) (i:=z1) (q:=.i64) (a:=a10) (by kernel_rfl) (by kernel_rfl) (by kernel_rfl) (by kernel_rfl) (by kernel_rfl) (by kernel_rfl) h8 h9 h11 (by kernel_rfl)) <|
 mLd 0 (eI .u32) h11<|h.elim fun a14 h=>h.elim fun h15 h=>h.elim fun h13 h=>h.elim fun h12 h=>mVl 3 (Aiy (s:=0) (ps:=[]) (off:=y4_o_L2) (len:=y4_n_L2) (t:=127) (x:=(.tmp 39)) (ix:=(.tmp 41)) (et:=49) (k:=1) (e:=(eI .u32)) (l:=k0_0) (i:=(IntKind.wrap .i64 (z1-1))) (q:=.i64) (a:=a14) (by kernel_rfl) (by kernel_rfl) (by kernel_rfl) (by kernel_rfl) (by kernel_rfl) (by kernel_rfl) h12 h13 h15 (by kernel_rfl))<|mLd 0 (eI .u32) h15<|Ac1 0 h Abv Abu (fun h=>h.elim fun h17 h=>h.elim fun h16 h=>mVl 7 (Aiy (s:=0) (ps:=[]) (off:=y4_o_L2) (len:=y4_n_L2) (t:=127) (x:=(.tmp 47)) (ix:=(.tmp 48)) (et:=49) (k:=1) (e:=(eI .u32)) (l:=k0_0) (i:=z1) (q:=.i64) (a:=a10) (by kernel_rfl) (by kernel_rfl) (by kernel_rfl) (by kernel_rfl) (by kernel_rfl) (by kernel_rfl) h16 h17 h11 (by kernel_rfl))<|mLd 0 (eI .u32) h11<|mIy 0 (eI .u32) h fun a18 h19 h=>mSto 0 (eI .u32) a10 h19<|mFin 6 h) fun h=>mFin 3 h) fun h=>h.elim fun h20 h=>h.elim fun h21 h=>mVl 6 (Ak8 (s:=0) (ps:=[]) (t:=127) (x:=(.tmp 54)) (lo:=(some (.tmp 55))) (hi:=none) (lo':=some z0.toNat) (hi':=none) (e:=(eI .u32)) (l:=k0_0) (et:=49) (k:=1) (by kernel_rfl) (by kernel_rfl) (Afx (by kernel_rfl)) (Aea (i:=z0) (q:=.i64) (by kernel_rfl) h20) Ae9 (by kernel_rfl) (by kernel_rfl) (fun _=>rfl) (by kernel_rfl) h21.1 h21.2)<|h.elim fun h22 h=>mOp 0 (Bfv (t:=127) (x:=(.tmp 56)) (s:=0) (ps:=[]) (off:=z0.toNat) (len:=(k0_0.length-z0.toNat)) (l:=k0_0) (e:=(eI .u32)) (et:=49) (z:=.lit (.int .u32 0)) (k:=1) (by kernel_rfl) (by kernel_rfl) (by kernel_rfl) (by kernel_rfl) (by kernel_rfl) (by kernel_rfl) (by kernel_rfl) (by kernel_rfl) (fun _=>rfl) h22 (by kernel_rfl)) <|
 h.elim fun h23 h=>h.elim fun h24 h=>h.elim fun h25 h=>mVl 4 (Avv (t:=127) (x:=(.tmp 57)) (hi:=(some (.tmp 58))) (hi':=z0.toNat) (e:=(eI .u32)) (l:=k0_0) (off:=z0.toNat) (len:=(k0_0.length-z0.toNat)) (z:=.lit (.int .u32 0)) (et:=49) (k:=1) (s:=0) (ps:=[]) (by kernel_rfl) (by kernel_rfl) (by kernel_rfl) (Aea (i:=z0) (q:=.i64) (by kernel_rfl) h23) (by kernel_rfl) (by kernel_rfl) (fun _=>rfl) (by kernel_rfl) (by kernel_rfl) h24 h25)<|h.elim fun h26 h=>mRet 2 h (hl:=(Bdl (t:=2) (s:=0) (n:=z0.toNat) (m:=(zB z0.toNat k0_0)) (e:=(eI .u32)) (es:=clr (eI .u32) k0_0 z0.toNat (k0_0.length-z0.toNat) (.lit (.int .u32 0))) (by kernel_rfl) (by kernel_rfl) (by kernel_rfl) (by rw[Azs (by first|exact h26.1|omega)];exact h26.2.1) (Bf5 h26.1 h26.2.2) (by kernel_rfl)))
theorem L3_step(z0:List Int)(z1:Int)(y4_o_L2 y4_n_L2:Nat)(z2:Int)(φ:(List Int×Bool)->Prop)(h:L2 z0 z1 y4_o_L2 y4_n_L2 (IntKind.wrap .i64 (z2+1)) φ):L3 z0 z1 y4_o_L2 y4_n_L2 z2 φ:=mIn<|mFin 5 h
theorem enter(k0_0:List Int)(φ:(List Int×Bool)->Prop)(h:(if(k0_0.length:Int)<2 then φ (⟨k0_0,true⟩)else L1 k0_0 1 φ)):∃r,φ r/\C k0_0 r:=mEnt (fd:=Tryz.f115) (body:=B) (V:=W) (res:=res)<|mLen 5 (eI .u32) k0_0<|mAsk 0 h dT dF (fun h=>mRet 6 h) fun h=>mFin 6 h
end q19_
namespace q48_
noncomputable def B:Code:=(Tryz.f124.body).getD .skip
def W:List Nat:=[0,2,3,4,6,11]
def res(r:List Int):D×List D:=(.own (r.map (eI .i64)),[])
def C(x0:Int)(r:List Int):Prop:=Ret env 124 [.lit (.int .u32 x0)] (res r).1 (res r).2
def L1(x0:Int)(z0:List Int)(z1:Int)(φ:List Int->Prop):Prop:=Pt env 124 W B [1,1,0,1,0] [(0,.lit (.int .u32 x0)),(3,.own (z0.map (eI .i64))),(4,.lit (.int .i64 z1))] (Lv env 124 Tryz.f124 1 res φ)
def L2(x0:Int)(z0:List Int)(z1:Int)(φ:List Int->Prop):Prop:=Pt env 124 W B [1,1,0,1,0,0,1,1] [(0,.lit (.int .u32 x0)),(3,.own (z0.map (eI .i64))),(4,.lit (.int .i64 z1))] (Lv env 124 Tryz.f124 1 res φ)
theorem L1_step(x0:Int)(z0:List Int)(z1:Int)(φ:List Int->Prop)(h:(if z1<32 then ∃r1:Bool,q106_.C x0 z1 r1/\(if r1=true then(z0.length+1)*8<=140737488355328/\L2 x0 (z0++[z1]) z1 φ else L2 x0 z0 z1 φ)else φ z0)):L1 x0 z0 z1 φ:=mIn<|mAsk 3 h dT dF (fun h=>Aav 6 h (fun _ h=>h) (fun _ h=>mApp 6 (eI .i64) z0 ([z1]) h fun h=>mFin 2 h) fun _ h=>mFin 3 h) fun h=>mRet 7 h
theorem L2_step(x0:Int)(z0:List Int)(z1:Int)(φ:List Int->Prop)(h:L1 x0 z0 (IntKind.wrap .i64 (z1+1)) φ):L2 x0 z0 z1 φ:=mIn<|mFin 5 h
theorem enter(x0:Int)(φ:List Int->Prop)(h:L1 x0 ([]) 0 φ):∃r,φ r/\C x0 r:=mEnt (fd:=Tryz.f124) (body:=B) (V:=W) (res:=res)<|mFin 9 h
end q48_
namespace q115_
noncomputable def B:Code:=(Tryz.f93.body).getD .skip
def W:List Nat:=[0,2,3]
def res(r:List Int):D×List D:=(.sl (r.map (eI .u32)),[])
def C(x0 r:List Int):Prop:=Ret env 93 [.sl (x0.map (eI .u32))] (res r).1 (res r).2
theorem enter(x0:List Int)(φ:List Int->Prop)(h:x0.length*4<=140737488355328/\∃r2:List Int,q15_.C x0 r2/\∃r3:(List Int×Bool),q19_.C r2 r3/\φ r3.1):∃r,φ r/\C x0 r:=mEnt (fd:=Tryz.f93) (body:=B) (V:=W) (res:=res)<|h.elim fun h1 h=>Aw3 5 (show Ret env 112 [.sl (x0.map (eI .u32))] (.own (x0.map (eI .u32))) []from Be2 (k:=1) (b:=4) (e:=(eI .u32)) (l:=x0) (by kernel_rfl) (fun _=>rfl) h1) (hf:=(Aah (Aam (e:=(eI .u32)) (fun _=>rfl)) rfl))<|mCal 4 h (fun _ h=>h) (hf:=(fun _=>Anf (Ach Aax) (Aam (e:=(eI .u32)) (fun _=>rfl)))) fun r2 _ h=>Akn 3 h (fun _ h=>h) (fun(r3:(List Int×Bool))=>Bco (l:=r3.1) (e:=(eI .u32)) rfl (fun _=>rfl)) (hf:=(fun _=>Bck (Bcw (e:=(eI .u32)) (fun _=>rfl)) rfl)) fun r3 _ h=>mRet 2 h
end q115_
namespace q93_
noncomputable def B:Code:=(Tryz.f106.body).getD .skip
def W:List Nat:=[0,2]
def res(r:Int):D×List D:=(.lit (.int .i64 r),[])
def C(x0 r:Int):Prop:=Ret env 106 [.lit (.int .u32 x0)] (res r).1 (res r).2
theorem enter(x0:Int)(φ:Int->Prop)(h:∃r1:List Int,q48_.C x0 r1/\φ (r1.length:Int)):∃r,φ r/\C x0 r:=mEnt (fd:=Tryz.f106) (body:=B) (V:=W) (res:=res)<|mCal 5 h (fun _ h=>h) (hf:=(fun _=>Aah (Aam (e:=(eI .i64)) (fun _=>rfl)) rfl)) fun r1 _ h=>mLen 0 (eI .i64) r1<|mRet 2 h
end q93_
namespace q55_
noncomputable def B:Code:=(Tryz.f110.body).getD .skip
def W:List Nat:=[0,1,4,9]
def res(r:Bool):D×List D:=(.lit (.bool r),[])
def C(x0 x1:Int)(r:Bool):Prop:=Ret env 110 [.lit (.int .u32 x0),.lit (.int .u32 x1)] (res r).1 (res r).2
theorem enter(x0 x1:Int)(φ:Bool->Prop)(h:∃r1:Int,q93_.C x0 r1/\∃r2:Int,q93_.C x1 r2/\(if r1=r2 then φ (decide (x0<x1))else ∃r3:Int,q93_.C x0 r3/\∃r4:Int,q93_.C x1 r4/\φ (decide (r3<r4)))):∃r,φ r/\C x0 x1 r:=mEnt (fd:=Tryz.f110) (body:=B) (V:=W) (res:=res)<|mCal 5 h (fun _ h=>h) fun r1 _ h=>mCal 1 h (fun _ h=>h) fun r2 _ h=>Ac1 0 h Abv Abu (fun h=>mCal 4 h (fun _ h=>h) fun r3 _ h=>mCal 1 h (fun _ h=>h) fun r4 _ h=>mRet 3 h) fun h=>mRet 9 h
end q55_
namespace q116_
noncomputable def B:Code:=(Tryz.f109.body).getD .skip
def W:List Nat:=[0,1,4,5,9,17]
def res(r:Bool):D×List D:=(.lit (.bool r),[])
def C(x0:List Int)(x1:Int)(r:Bool):Prop:=Ret env 109 [.sl (x0.map (eI .u32)),.lit (.int .u32 x1)] (res r).1 (res r).2
def L1(x0:List Int)(x1 z0:Int)(φ:Bool->Prop):Prop:=Pt env 109 W B [1,0,1,0] [(0,.sl (x0.map (eI .u32))),(1,.lit (.int .u32 x1)),(5,.lit (.int .i64 z0))] (Lv env 109 Tryz.f109 2 res φ)
theorem L1_step(x0:List Int)(x1 z0:Int)(φ:Bool->Prop)(h:(if z0<(x0.length:Int)then ∃a1,lget x0 z0=some a1/\(if a1=x1 then φ true else L1 x0 x1 (IntKind.wrap .i64 (z0+1)) φ)else φ false)):L1 x0 x1 z0 φ:=mIn<|mLen 4 (eI .u32) x0<|mAsk 0 h dT dF (fun h=>mIx 6 (eI .u32) h fun a1 h2 h=>mAsk 2 h Aaj Aai (fun h=>mRet 5 h) fun h=>mFin 8 h) fun h=>mRet 6 h
theorem enter(x0:List Int)(x1:Int)(φ:Bool->Prop)(h:L1 x0 x1 0 φ):∃r,φ r/\C x0 x1 r:=mEnt (fd:=Tryz.f109) (body:=B) (V:=W) (res:=res)<|mFin 6 h
end q116_
namespace q72_
noncomputable def B:Code:=(Tryz.f90.body).getD .skip
def W:List Nat:=[0,2,3,4,5,9,17,41]
def res(r:List Int):D×List D:=(.own (r.map (eI .u32)),[])
def C(x0 r:List Int):Prop:=Ret env 90 [.sl (x0.map (eI .u32))] (res r).1 (res r).2
def L1(x0 z0:List Int)(z1:Int)(φ:List Int->Prop):Prop:=Pt env 90 W B [1,1,0,1,0] [(0,.sl (x0.map (eI .u32))),(3,.own (z0.map (eI .u32))),(4,.lit (.int .i64 z1))] (Lv env 90 Tryz.f90 1 res φ)
def L3(x0 z0:List Int)(z1:Int)(φ:List Int->Prop):Prop:=Pt env 90 W B [1,1,0,1,0,0,1,1] [(0,.sl (x0.map (eI .u32))),(3,.own (z0.map (eI .u32))),(4,.lit (.int .i64 z1))] (Lv env 90 Tryz.f90 1 res φ)
def L2(x0 z0:List Int)(z1 z2:Int)(φ:List Int->Prop):Prop:=Pt env 90 W B [1,1,0,1,0,0,1,0,0,1,1,1,0] [(0,.sl (x0.map (eI .u32))),(3,.own (z0.map (eI .u32))),(4,.lit (.int .i64 z1)),(5,.lit (.int .i64 z2))] (Lv env 90 Tryz.f90 1 res φ)
theorem L1_step(x0 z0:List Int)(z1:Int)(φ:List Int->Prop)(h:(if z1<(x0.length:Int)then ∃a1,lget x0 z1=some a1/\∃r3:Bool,q116_.C z0 a1 r3/\(if r3=true then L3 x0 z0 z1 φ else(z0.length+1)*4<=140737488355328/\L2 x0 (z0++[a1]) z1 (IntKind.wrap .i64 (((z0++[a1]).length:Int)-1)) φ)else φ z0)):L1 x0 z0 z1 φ:=mIn<|mLen 4 (eI .u32) x0<|mAsk 0 h dT dF (fun h=>mIx 7 (eI .u32) h fun a1 h2 h=>Aav 1 h (fun _ h=>h) (hr:=by exact(Abk (Abr (s:=3) (ps:=[]) (l:=z0) (e:=(eI .u32)) (e':=(eI .u32)) (fun _=>rfl) (by kernel_rfl)) (pr_k Ace))) (fun _ h=>mFin 3 h) fun _ h=>mIxf 7 (eI .u32) h2<|mApp 2 (eI .u32) z0 ([a1]) h fun h=>mLen 4 (eI .u32) (z0++[a1])<|mFin 3 h) fun h=>mRet 7 h
theorem L3_step(x0 z0:List Int)(z1:Int)(φ:List Int->Prop)(h:L1 x0 z0 (IntKind.wrap .i64 (z1+1)) φ):L3 x0 z0 z1 φ:=mIn<|mFin 5 h
theorem L2_step(x0 z0:List Int)(z1 z2:Int)(φ:List Int->Prop)(h:(if 0<z2 then ∃a5,lget z0 z2=some a5/\∃a7,lget z0 (IntKind.wrap .i64 (z2-1))=some a7/\∃r9:Bool,q55_.C a5 a7 r9/\(if r9=true then ∃a10,lget (lset z0 z2 a7) (IntKind.wrap .i64 (z2-1))=some a10/\L2 x0 (lset (lset z0 z2 a7) (IntKind.wrap .i64 (z2-1)) a5) z1 (IntKind.wrap .i64 (z2-1)) φ else L3 x0 z0 z1 φ)else L3 x0 z0 z1 φ)):L2 x0 z0 z1 z2 φ:=mIn<|mAsk 3 h dT dF (fun h=>mIy 3 (eI .u32) h fun a5 h6 h=>mLd 0 (eI .u32) h6<|mIy 3 (eI .u32) h fun a7 h8 h=>mLd 0 (eI .u32) h8<|Aav 0 h (fun _ h=>h) (fun _ h=>mIyf 13 (eI .u32) h8<|mLd 0 (eI .u32) h8<|mIyf 2 (eI .u32) h6<|mLd 0 (eI .u32) h6<|mIyf 0 (eI .u32) h6<|Bgo 0 (eI .u32) a7 h6<|mIy 0 (eI .u32) h fun a10 h11 h=>mSto 0 (eI .u32) a5 h11<|mFin 6 h) fun _ h=>mFin 4 h) fun h=>mFin 15 h
theorem enter(x0:List Int)(φ:List Int->Prop)(h:L1 x0 ([]) 0 φ):∃r,φ r/\C x0 r:=mEnt (fd:=Tryz.f90) (body:=B) (V:=W) (res:=res)<|mFin 9 h
end q72_
namespace q117_
noncomputable def B:Code:=(Tryz.f73.body).getD .skip
def W:List Nat:=[0,1,4,5,7,9,10,11,12,19,27]
def res(r:Int):D×List D:=(.lit (.int .u32 r),[])
def C(x0:List api_FD)(x1 r:Int):Prop:=Ret env 73 [.sl (x0.map Aa0),.lit (.int .u32 x1)] (res r).1 (res r).2
def L1(x0:List api_FD)(x1:Int)(φ:Int->Prop):Prop:=Pt env 73 W B [1,0] [(0,.sl (x0.map Aa0)),(1,.lit (.int .u32 x1))] (Lv env 73 Tryz.f73 2 res φ)
def L2(x0:List api_FD)(x1 z0 z1:Int)(φ:Int->Prop):Prop:=Pt env 73 W B [1,0,0,0,1,0,1,0] [(0,.sl (x0.map Aa0)),(1,.lit (.int .u32 x1)),(5,.lit (.int .u32 z0)),(9,.sl (x0.map Aa0)),(10,.lit (.int .i64 (x0.length:Int))),(11,.lit (.int .i64 z1))] (Lv env 73 Tryz.f73 2 res φ)
def L3(x0:List api_FD)(z0 z1 z2:Int)(φ:Int->Prop):Prop:=Pt env 73 W B [1,0,0,0,1,0,1,0,0,1,1,1] [(0,.sl (x0.map Aa0)),(1,.lit (.int .u32 z0)),(5,.lit (.int .u32 z1)),(9,.sl (x0.map Aa0)),(10,.lit (.int .i64 (x0.length:Int))),(11,.lit (.int .i64 z2))] (Lv env 73 Tryz.f73 2 res φ)
theorem L1_step(x0:List api_FD)(x1:Int)(φ:Int->Prop)(h:L2 x0 x1 x1 0 φ):L1 x0 x1 φ:=mIn<|mLen 7 Aa0 x0<|mFin 2 h
theorem L2_step(x0:List api_FD)(x1 z0 z1:Int)(φ:Int->Prop)(h:(if z1<(x0.length:Int)then ∃a1,lget x0 z1=some a1/\(if(Aab .u32 a1.Lhs x1)=0 then L3 x0 (bOr .u32 x1 a1.Rhs) z0 z1 φ else L3 x0 x1 z0 z1 φ)else(if x1=z0 then φ x1 else L1 x0 x1 φ))):L2 x0 x1 z0 z1 φ:=mIn<|mAsk 2 h dT dF (fun h=>mIx 4 Aa0 h fun a1 h2 h=>mAsk 9 h Aaj Aai (fun h=>mFin 9 h) fun h=>mFin 3 h) fun h=>mAsk 6 h Aaj Aai (fun h=>mRet 6 h) fun h=>mFin 3 h
theorem L3_step(x0:List api_FD)(z0 z1 z2:Int)(φ:Int->Prop)(h:L2 x0 z0 z1 (IntKind.wrap .i64 (z2+1)) φ):L3 x0 z0 z1 z2 φ:=mIn<|mFin 4 h
theorem enter(x0:List api_FD)(x1:Int)(φ:Int->Prop)(h:L1 x0 x1 φ):∃r,φ r/\C x0 x1 r:=mEnt (fd:=Tryz.f73) (body:=B) (V:=W) (res:=res)<|mFin 3 h
end q117_
namespace q73_
noncomputable def B:Code:=(Tryz.f89.body).getD .skip
def W:List Nat:=[0,1,4,5,6,11,20,30]
def res(r:Int):D×List D:=(.lit (.int .u32 r),[])
def C(x0:List api_FD)(x1 r:Int):Prop:=Ret env 89 [.sl (x0.map Aa0),.lit (.int .u32 x1)] (res r).1 (res r).2
def L1(x0:List api_FD)(x1:Int)(φ:Int->Prop):Prop:=Pt env 89 W B [1,0] [(0,.sl (x0.map Aa0)),(1,.lit (.int .u32 x1))] (Lv env 89 Tryz.f89 2 res φ)
def L2(x0:List api_FD)(x1 z0 z1:Int)(φ:Int->Prop):Prop:=Pt env 89 W B [1,0,0,0,1,0,1,0] [(0,.sl (x0.map Aa0)),(1,.lit (.int .u32 x1)),(5,.lit (.int .u32 z0)),(6,.lit (.int .i64 z1))] (Lv env 89 Tryz.f89 2 res φ)
def L3(x0:List api_FD)(z0 z1 z2:Int)(φ:Int->Prop):Prop:=Pt env 89 W B [1,0,0,0,1,0,1,0,0,1,1] [(0,.sl (x0.map Aa0)),(1,.lit (.int .u32 z0)),(5,.lit (.int .u32 z1)),(6,.lit (.int .i64 z2))] (Lv env 89 Tryz.f89 2 res φ)
theorem L1_step(x0:List api_FD)(x1:Int)(φ:Int->Prop)(h:L2 x0 x1 x1 0 φ):L1 x0 x1 φ:=mIn<|mFin 8 h
theorem L2_step(x0:List api_FD)(x1 z0 z1:Int)(φ:Int->Prop)(h:(if z1<(x0.length:Int)then ∃a1,lget x0 z1=some a1/\∃r3:Bool,q105_.C a1.Lhs x1 r3/\(if r3=true then L3 x0 (bOr .u32 x1 a1.Rhs) z0 z1 φ else L3 x0 x1 z0 z1 φ)else(if x1=z0 then φ x1 else L1 x0 x1 φ))):L2 x0 x1 z0 z1 φ:=mIn<|mLen 4 Aa0 x0<|mAsk 0 h dT dF (fun h=>mIx 6 Aa0 h fun a1 h2 h=>Aav 3 h (fun _ h=>h) (fun _ h=>mIxf 6 Aa0 h2<|mFin 5 h) fun _ h=>mFin 3 h) fun h=>mAsk 6 h Aaj Aai (fun h=>mRet 6 h) fun h=>mFin 3 h
theorem L3_step(x0:List api_FD)(z0 z1 z2:Int)(φ:Int->Prop)(h:L2 x0 z0 z1 (IntKind.wrap .i64 (z2+1)) φ):L3 x0 z0 z1 z2 φ:=mIn<|mFin 5 h
theorem enter(x0:List api_FD)(x1:Int)(φ:Int->Prop)(h:L1 x0 x1 φ):∃r,φ r/\C x0 x1 r:=mEnt (fd:=Tryz.f89) (body:=B) (V:=W) (res:=res)<|mFin 3 h
end q73_
namespace q25_
noncomputable def B:Code:=(Tryz.f83.body).getD .skip
def W:List Nat:=[0,1,3,4,5,7,8,9,16]
def res(r:Int):D×List D:=(.lit (.int .i64 r),[])
def C(x0:List api_FD)(x1:api_FD)(r:Int):Prop:=Ret env 83 [.sl (x0.map Aa0),.agg [.lit (.int .u32 x1.Lhs),.lit (.int .u32 x1.Rhs)]] (res r).1 (res r).2
def L1(x0:List api_FD)(x1:api_FD)(z0:Int)(φ:Int->Prop):Prop:=Pt env 83 W B [1,0,1,0] [(0,.sl (x0.map Aa0)),(1,.agg [.lit (.int .u32 x1.Lhs),.lit (.int .u32 x1.Rhs)]),(3,.box [.lit (.int .u32 x1.Lhs),.lit (.int .u32 x1.Rhs)]),(7,.lit (.int .i64 (x0.length:Int))),(8,.lit (.int .i64 z0))] (Lv env 83 Tryz.f83 2 res φ)
theorem L1_step(x0:List api_FD)(x1:api_FD)(z0:Int)(φ:Int->Prop)(h:(if z0<(x0.length:Int)then ∃a1,lget x0 z0=some a1/\(if(and (x1.Lhs==a1.Lhs) (and (x1.Rhs==a1.Rhs) true))=true then φ z0 else L1 x0 x1 (IntKind.wrap .i64 (z0+1)) φ)else φ (-1))):L1 x0 x1 z0 φ:=mIn<|mAsk 2 h dT dF (fun h=>mIx 11 Aa0 h fun a1 h2 h=>mBiA 1 h id fls (hd:=(Azm (t:=51) (xs:=[.lit (.int .u32 x1.Lhs),.lit (.int .u32 x1.Rhs)]) (ys:=[.lit (.int .u32 a1.Lhs),.lit (.int .u32 a1.Rhs)]) (l:=[(x1.Lhs==a1.Lhs),(x1.Rhs==a1.Rhs)]))) (fun h=>mRet 6 h) fun h=>mFin 7 h) fun h=>mRet 6 h
theorem enter(x0:List api_FD)(x1:api_FD)(φ:Int->Prop)(h:L1 x0 x1 0 φ):∃r,φ r/\C x0 x1 r:=mEnt (fd:=Tryz.f83) (body:=B) (V:=W) (res:=res)<|mLen 6 Aa0 x0<|mFin 2 h
end q25_
namespace q21_
noncomputable def B:Code:=(Tryz.f59.body).getD .skip
def W:List Nat:=[0,1,3,4]
def res(r:Bool):D×List D:=(.lit (.bool r),[])
def C(x0:List api_FD)(x1:api_FD)(r:Bool):Prop:=Ret env 59 [.sl (x0.map Aa0),.agg [.lit (.int .u32 x1.Lhs),.lit (.int .u32 x1.Rhs)]] (res r).1 (res r).2
theorem enter(x0:List api_FD)(x1:api_FD)(φ:Bool->Prop)(h:∃r1:Int,q25_.C x0 x1 r1/\φ (decide (0<=r1))):∃r,φ r/\C x0 x1 r:=mEnt (fd:=Tryz.f59) (body:=B) (V:=W) (res:=res)<|mCal 7 h (fun _ h=>h) fun r1 _ h=>mRet 3 h
end q21_
namespace q94_
noncomputable def B:Code:=(Tryz.f32.body).getD .skip
def W:List Nat:=[0,2,3,5,6,7,8,9,26]
def res(r:List api_FD):D×List D:=(.own (r.map Aa0),[])
def C(x0 r:List api_FD):Prop:=Ret env 32 [.sl (x0.map Aa0)] (res r).1 (res r).2
def L1(x0 z0:List api_FD)(z1:Int)(φ:List api_FD->Prop):Prop:=Pt env 32 W B [1,1,0,1,0] [(0,.sl (x0.map Aa0)),(3,.own (z0.map Aa0)),(6,.sl (x0.map Aa0)),(7,.lit (.int .i64 (x0.length:Int))),(8,.lit (.int .i64 z1))] (Lv env 32 Tryz.f32 1 res φ)
def L2(x0 z0:List api_FD)(z1:Int)(φ:List api_FD->Prop):Prop:=Pt env 32 W B [1,1,0,1,0,0,1,1,1] [(0,.sl (x0.map Aa0)),(3,.own (z0.map Aa0)),(6,.sl (x0.map Aa0)),(7,.lit (.int .i64 (x0.length:Int))),(8,.lit (.int .i64 z1))] (Lv env 32 Tryz.f32 1 res φ)
theorem L1_step(x0 z0:List api_FD)(z1:Int)(φ:List api_FD->Prop)(h:(if z1<(x0.length:Int)then ∃a1,lget x0 z1=some a1/\(if(Aab .u32 a1.Rhs a1.Lhs)=0 then L2 x0 z0 z1 φ else ∃r3:Bool,q21_.C z0 (⟨a1.Lhs,(Aab .u32 a1.Rhs a1.Lhs)⟩:api_FD) r3/\(if r3=true then L2 x0 z0 z1 φ else(z0.length+1)*8<=140737488355328/\L2 x0 (z0++[(⟨a1.Lhs,(Aab .u32 a1.Rhs a1.Lhs)⟩:api_FD)]) z1 φ))else φ z0)):L1 x0 z0 z1 φ:=mIn<|mAsk 2 h dT dF (fun h=>mIx 4 Aa0 h fun a1 h2 h=>Ac1 16 h Abv Abu (fun h=>Aav 3 h (fun _ h=>h) (hr:=by exact(Abk (Abr (s:=3) (ps:=[]) (l:=z0) (e:=Aa0) (e':=Aa0) (fun _=>rfl) (by kernel_rfl)) (pr_k Ace))) (fun _ h=>mFin 5 h) fun _ h=>mApp 8 Aa0 z0 ([(⟨a1.Lhs,(Aab .u32 a1.Rhs a1.Lhs)⟩:api_FD)]) h fun h=>mFin 2 h) fun h=>mFin 9 h) fun h=>mRet 7 h
theorem L2_step(x0 z0:List api_FD)(z1:Int)(φ:List api_FD->Prop)(h:L1 x0 z0 (IntKind.wrap .i64 (z1+1)) φ):L2 x0 z0 z1 φ:=mIn<|mFin 4 h
theorem enter(x0:List api_FD)(φ:List api_FD->Prop)(h:L1 x0 ([]) 0 φ):∃r,φ r/\C x0 r:=mEnt (fd:=Tryz.f32) (body:=B) (V:=W) (res:=res)<|mLen 8 Aa0 x0<|mFin 2 h
end q94_
namespace q74_
noncomputable def B:Code:=(Tryz.f70.body).getD .skip
def W:List Nat:=[0,2,3,5,8,13,14,15,16]
def res(r:Int):D×List D:=(.lit (.int .u32 r),[])
def C(x0:List api_FD)(r:Int):Prop:=Ret env 70 [.sl (x0.map Aa0)] (res r).1 (res r).2
def L1(x0:List api_FD)(z0 z1:Int)(φ:Int->Prop):Prop:=Pt env 70 W B [1,1,1,0,1,0] [(0,.sl (x0.map Aa0)),(3,.lit (.int .u32 z0)),(13,.sl (x0.map Aa0)),(14,.lit (.int .i64 (x0.length:Int))),(15,.lit (.int .i64 z1))] (Lv env 70 Tryz.f70 1 res φ)
theorem L1_step(x0:List api_FD)(z0 z1:Int)(φ:Int->Prop)(h:(if z1<(x0.length:Int)then ∃a3,lget x0 z1=some a3/\L1 x0 (bAnd .u32 z0 a3.Lhs) (IntKind.wrap .i64 (z1+1)) φ else φ z0)):L1 x0 z0 z1 φ:=mIn<|mAsk 2 h dT dF (fun h=>mIx 4 Aa0 h fun a3 h4 h=>mFin 15 h) fun h=>mRet 7 h
theorem enter(x0:List api_FD)(φ:Int->Prop)(h:(if(x0.length:Int)=0 then φ 0 else ∃a1,lget x0 0=some a1/\L1 x0 a1.Lhs 0 φ)):∃r,φ r/\C x0 r:=mEnt (fd:=Tryz.f70) (body:=B) (V:=W) (res:=res)<|mLen 5 Aa0 x0<|mAsk 0 h Aaj Aai (fun h=>mRet 5 h) fun h=>mIx 5 Aa0 h fun a1 h2 h=>mLen 6 Aa0 x0<|mFin 2 h
end q74_
namespace q95_
noncomputable def B:Code:=(Tryz.f71.body).getD .skip
def W:List Nat:=[0,2,3,5,6,7,8,9]
def res(r:List Int):D×List D:=(.sl (r.map (eI .u32)),[])
def C(x0:List api_FD)(r:List Int):Prop:=Ret env 71 [.sl (x0.map Aa0)] (res r).1 (res r).2
def L1(x0:List api_FD)(z0:List Int)(z1:Int)(φ:List Int->Prop):Prop:=Pt env 71 W B [1,1,0,1,0] [(0,.sl (x0.map Aa0)),(3,.own (z0.map (eI .u32))),(6,.sl (x0.map Aa0)),(7,.lit (.int .i64 (x0.length:Int))),(8,.lit (.int .i64 z1))] (Lv env 71 Tryz.f71 1 res φ)
theorem L1_step(x0:List api_FD)(z0:List Int)(z1:Int)(φ:List Int->Prop)(h:(if z1<(x0.length:Int)then ∃a1,lget x0 z1=some a1/\(z0.length+1)*4<=140737488355328/\L1 x0 (z0++[a1.Lhs]) (IntKind.wrap .i64 (z1+1)) φ else ∃r4:List Int,q115_.C z0 r4/\φ r4)):L1 x0 z0 z1 φ:=mIn<|mAsk 2 h dT dF (fun h=>mIx 4 Aa0 h fun a1 h2 h=>mApp 9 (eI .u32) z0 ([a1.Lhs]) h fun h=>mFin 6 h) fun h=>mXit 2 [(3,.sl (z0.map (eI .u32)))] (Aq7 (F0:=[(3,.own (z0.map (eI .u32)))]) (l:=z0) (e:=(eI .u32)) (e':=(eI .u32)) (s:=3) (by kernel_rfl) (by kernel_rfl) (by kernel_rfl) (fun _=>rfl) (by kernel_rfl) (by kernel_rfl))<|mCal 2 h (fun _ h=>h) (hf:=(fun _=>Ae5)) fun r4 _ h=>mRet 2 h
theorem enter(x0:List api_FD)(φ:List Int->Prop)(h:L1 x0 ([]) 0 φ):∃r,φ r/\C x0 r:=mEnt (fd:=Tryz.f71) (body:=B) (V:=W) (res:=res)<|mLen 8 Aa0 x0<|mFin 2 h
end q95_
namespace q39_
noncomputable def B:Code:=(Tryz.f95.body).getD .skip
def W:List Nat:=[0,1,2,3,4]
def res(r:Bool):D×List D:=(.lit (.bool r),[])
def C(x0:api_FD)(k1_0 k2_0:Int)(r:Bool):Prop:=Ret env 95 [.agg [.lit (.int .u32 x0.Lhs),.lit (.int .u32 x0.Rhs)],.ref [.lit (.int .u32 k1_0)],.ref [.lit (.int .u32 k2_0)]] (res r).1 (res r).2
theorem enter(x0:api_FD)(k1_0 k2_0:Int)(φ:Bool->Prop)(h:(if(Aab .u32 k1_0 x0.Lhs)=0 then φ false else φ ((Aab .u32 k2_0 x0.Lhs)!=0))):∃r,φ r/\C x0 k1_0 k2_0 r:=mEnt (fd:=Tryz.f95) (body:=B) (V:=W) (res:=res)<|Ac1 9 h Abv Abu (fun h=>mRet 9 h) fun h=>mRet 9 h
end q39_
namespace q10_
noncomputable def B:Code:=(Tryz.f41.body).getD .skip
def W:List Nat:=[0,1,4,5,7,8,9,16]
def res(r:Int):D×List D:=(.lit (.int .i64 r),[])
def C(x0:List api_FD)(k1_0 k1_1 r:Int):Prop:=Ret env 41 [.sl (x0.map Aa0),.fn 95 [.ref [.lit (.int .u32 k1_0)],.ref [.lit (.int .u32 k1_1)]]] (res r).1 (res r).2
def L1(x0:List api_FD)(k1_0 k1_1 z0:Int)(φ:Int->Prop):Prop:=Pt env 41 W B [1,0,1,0] [(0,.sl (x0.map Aa0)),(1,.fn 95 [.ref [.lit (.int .u32 k1_0)],.ref [.lit (.int .u32 k1_1)]]),(7,.lit (.int .i64 (x0.length:Int))),(8,.lit (.int .i64 z0))] (Lv env 41 Tryz.f41 2 res φ)
theorem L1_step(x0:List api_FD)(k1_0 k1_1 z0:Int)(φ:Int->Prop)(h:(if z0<(x0.length:Int)then ∃a1,lget x0 z0=some a1/\∃r3:Bool,q39_.C a1 k1_0 k1_1 r3/\(if r3=true then φ z0 else L1 x0 k1_0 k1_1 (IntKind.wrap .i64 (z0+1)) φ)else φ (-1))):L1 x0 k1_0 k1_1 z0 φ:=mIn<|mAsk 2 h dT dF (fun h=>mIx 11 Aa0 h fun a1 h2 h=>Aav 1 h (fun _ h=>h) (fun _ h=>mRet 6 h) fun _ h=>mFin 7 h) fun h=>mRet 6 h
theorem enter(x0:List api_FD)(k1_0 k1_1:Int)(φ:Int->Prop)(h:L1 x0 k1_0 k1_1 0 φ):∃r,φ r/\C x0 k1_0 k1_1 r:=mEnt (fd:=Tryz.f41) (body:=B) (V:=W) (res:=res)<|mLen 5 Aa0 x0<|mFin 2 h
end q10_
namespace q5_
noncomputable def B:Code:=(Tryz.f17.body).getD .skip
def W:List Nat:=[0,1,4]
def res(r:Bool):D×List D:=(.lit (.bool r),[])
def C(x0:List api_FD)(k1_0 k1_1:Int)(r:Bool):Prop:=Ret env 17 [.sl (x0.map Aa0),.fn 95 [.ref [.lit (.int .u32 k1_0)],.ref [.lit (.int .u32 k1_1)]]] (res r).1 (res r).2
theorem enter(x0:List api_FD)(k1_0 k1_1:Int)(φ:Bool->Prop)(h:∃r1:Int,q10_.C x0 k1_0 k1_1 r1/\φ (decide (0<=r1))):∃r,φ r/\C x0 k1_0 k1_1 r:=mEnt (fd:=Tryz.f17) (body:=B) (V:=W) (res:=res)<|mCal 6 h (fun _ h=>h) fun r1 _ h=>mRet 3 h
end q5_
namespace q56_
noncomputable def B:Code:=(Tryz.f74.body).getD .skip
def W:List Nat:=[0,1,2,4,5,6,18]
def res(r:Bool):D×List D:=(.lit (.bool r),[])
def C(x0:List api_FD)(x1 x2:Int)(r:Bool):Prop:=Ret env 74 [.sl (x0.map Aa0),.lit (.int .u32 x1),.lit (.int .u32 x2)] (res r).1 (res r).2
theorem enter(x0:List api_FD)(x1 x2:Int)(φ:Bool->Prop)(h:(if x1=x2 then φ false else ∃r1:Int,q117_.C x0 x1 r1/\∃r2:Int,q117_.C x0 x2 r2/\(if r1=r2 then ∃r3:Bool,q5_.C x0 x1 x2 r3/\φ (not r3)else φ false))):∃r,φ r/\C x0 x1 x2 r:=mEnt (fd:=Tryz.f74) (body:=B) (V:=W) (res:=res)<|mAsk 8 h Aaj Aai (fun h=>mRet 14 h) fun h=>mLo 3 h (fun _ h=>h) fun r1 _ h=>mCal 2 h (fun _ h=>h) fun r2 _ h=>Ac1 0 h Abv Abu (fun h=>mRet 6 h) fun h=>mCal 7 h (fun _ h=>h) fun r3 _ h=>mRet 3 h
end q56_
namespace q22_
noncomputable def B:Code:=(Tryz.f94.body).getD .skip
def W:List Nat:=[0,1,4,5,7,8,9,16]
def res(r:Int):D×List D:=(.lit (.int .i64 r),[])
def C(x0:List Int)(x1 r:Int):Prop:=Ret env 94 [.sl (x0.map (eI .u32)),.lit (.int .u32 x1)] (res r).1 (res r).2
def L1(x0:List Int)(x1 z0:Int)(φ:Int->Prop):Prop:=Pt env 94 W B [1,0,1,0] [(0,.sl (x0.map (eI .u32))),(1,.lit (.int .u32 x1)),(7,.lit (.int .i64 (x0.length:Int))),(8,.lit (.int .i64 z0))] (Lv env 94 Tryz.f94 2 res φ)
theorem L1_step(x0:List Int)(x1 z0:Int)(φ:Int->Prop)(h:(if z0<(x0.length:Int)then ∃a1,lget x0 z0=some a1/\(if x1=a1 then φ z0 else L1 x0 x1 (IntKind.wrap .i64 (z0+1)) φ)else φ (-1))):L1 x0 x1 z0 φ:=mIn<|mAsk 2 h dT dF (fun h=>mIx 11 (eI .u32) h fun a1 h2 h=>mAsk 1 h Aaj Aai (fun h=>mRet 6 h) fun h=>mFin 7 h) fun h=>mRet 6 h
theorem enter(x0:List Int)(x1:Int)(φ:Int->Prop)(h:L1 x0 x1 0 φ):∃r,φ r/\C x0 x1 r:=mEnt (fd:=Tryz.f94) (body:=B) (V:=W) (res:=res)<|mLen 5 (eI .u32) x0<|mFin 2 h
end q22_
namespace q18_
noncomputable def B:Code:=(Tryz.f72.body).getD .skip
def W:List Nat:=[0,1,4]
def res(r:Bool):D×List D:=(.lit (.bool r),[])
def C(x0:List Int)(x1:Int)(r:Bool):Prop:=Ret env 72 [.sl (x0.map (eI .u32)),.lit (.int .u32 x1)] (res r).1 (res r).2
theorem enter(x0:List Int)(x1:Int)(φ:Bool->Prop)(h:∃r1:Int,q22_.C x0 x1 r1/\φ (decide (0<=r1))):∃r,φ r/\C x0 x1 r:=mEnt (fd:=Tryz.f72) (body:=B) (V:=W) (res:=res)<|mCal 6 h (fun _ h=>h) fun r1 _ h=>mRet 3 h
end q18_
namespace q108_
noncomputable def B:Code:=(Tryz.f45.body).getD .skip
def W:List Nat:=[0,2,3,4,5,6,7,9,13,22,26,27,28,29,36,37,38,39,45]
def res(r:api_Step×Bool):D×List D:=(.tup [.agg [.lit (.int .i64 r.1.Kind),.lit (.int .u32 r.1.First),.lit (.int .u32 r.1.Second)],.lit (.bool r.2)],[])
def C(x0:List api_FD)(r:api_Step×Bool):Prop:=Ret env 45 [.sl (x0.map Aa0)] (res r).1 (res r).2
def L1(x0:List api_FD)(r2:List Int)(z0:Int)(φ:api_Step×Bool->Prop):Prop:=Pt env 45 W B [1,1,1,1,0,1,0] [(0,.sl (x0.map Aa0)),(2,.box [.lit (.int .i64 0),.lit (.int .u32 0),.lit (.int .u32 0)]),(5,.sl (r2.map (eI .u32))),(26,.sl (r2.map (eI .u32))),(27,.lit (.int .i64 (r2.length:Int))),(28,.lit (.int .i64 z0))] (Lv env 45 Tryz.f45 1 res φ)
def L2(x0:List api_FD)(r2:List Int)(a5 z0:Int)(z1:List Int)(z2 z3:Int)(φ:api_Step×Bool->Prop):Prop:=Pt env 45 W B [1,1,1,1,0,1,0,0,1,1,0,0,1,1,0] [(0,.sl (x0.map Aa0)),(2,.box [.lit (.int .i64 0),.lit (.int .u32 0),.lit (.int .u32 0)]),(5,.sl (r2.map (eI .u32))),(7,.lit (.int .u32 a5)),(26,.sl (r2.map (eI .u32))),(27,.lit (.int .i64 (r2.length:Int))),(28,.lit (.int .i64 z0)),(36,.sl (z1.map (eI .u32))),(37,.lit (.int .i64 z2)),(38,.lit (.int .i64 z3))] (Lv env 45 Tryz.f45 1 res φ)
theorem L1_step(x0:List api_FD)(r2:List Int)(z0:Int)(φ:api_Step×Bool->Prop)(h:(if z0<(r2.length:Int)then ∃a5,lget r2 z0=some a5/\0<=(IntKind.wrap .i64 (z0+1))/\((IntKind.wrap .i64 (z0+1)).toNat<=r2.length/\r2.length<=r2.length)/\L2 x0 r2 a5 z0 (zB (r2.length-(IntKind.wrap .i64 (z0+1)).toNat) (zD (IntKind.wrap .i64 (z0+1)).toNat r2)) ((zB (r2.length-(IntKind.wrap .i64 (z0+1)).toNat) (zD (IntKind.wrap .i64 (z0+1)).toNat r2)).length:Int) 0 φ else φ ((⟨0,0,0⟩:api_Step),false))):L1 x0 r2 z0 φ:=mIn<|mAsk 2 h dT dF (fun h=>mIx 5 (eI .u32) h fun a5 h6 h=>h.elim fun h7 h=>h.elim fun h8 h=>mVl 8 (Ak9 (t:=127) (x:=(.tmp 33)) (lo:=(some (.tmp 35))) (hi:=none) (lo':=some (IntKind.wrap .i64 (z0+1)).toNat) (hi':=none) (e:=(eI .u32)) (l:=r2) (et:=49) (k:=1) (by kernel_rfl) (by kernel_rfl) (Aea (i:=(IntKind.wrap .i64 (z0+1))) (q:=.i64) (by kernel_rfl) h7) Ae9 (by kernel_rfl) (by kernel_rfl) (fun _=>rfl) (by kernel_rfl) h8.1 h8.2)<|mLen 0 (eI .u32) (zB (r2.length-(IntKind.wrap .i64 (z0+1)).toNat) (zD (IntKind.wrap .i64 (z0+1)).toNat r2))<|mFin 2 h) fun h=>mRet 8 h
theorem L2_step(x0:List api_FD)(r2:List Int)(a5 z0:Int)(z1:List Int)(z2 z3:Int)(φ:api_Step×Bool->Prop)(h:(if z3<z2 then ∃a9,lget z1 z3=some a9/\∃r11:Bool,q56_.C x0 a5 a9 r11/\(if r11=true then φ ((⟨3,a5,a9⟩:api_Step),true)else L2 x0 r2 a5 z0 z1 z2 (IntKind.wrap .i64 (z3+1)) φ)else L1 x0 r2 (IntKind.wrap .i64 (z0+1)) φ)):L2 x0 r2 a5 z0 z1 z2 z3 φ:=mIn<|mAsk 2 h dT dF (fun h=>mIx 4 (eI .u32) h fun a9 h10 h=>Aav 7 h (fun _ h=>h) (fun _ h=>mRet 9 h) fun _ h=>mFin 7 h) fun h=>mFin 7 h
theorem enter(x0:List api_FD)(φ:api_Step×Bool->Prop)(h:∃r1:Int,q74_.C x0 r1/\(if r1=0 then ∃r2:List Int,q95_.C x0 r2/\∃r3:Bool,q18_.C r2 0 r3/\(if r3=true then ∃r4:Int,q117_.C x0 0 r4/\φ ((⟨2,r4,0⟩:api_Step),true)else L1 x0 r2 0 φ)else φ ((⟨1,(bAnd .u32 r1 (IntKind.wrap .u32 (0-r1))),0⟩:api_Step),true))):∃r,φ r/\C x0 r:=mEnt (fd:=Tryz.f45) (body:=B) (V:=W) (res:=res)<|mCal 6 h (fun _ h=>h) fun r1 _ h=>Ac1 4 h Abv Abu (fun h=>mRet 11 h) fun h=>mCal 5 h (fun _ h=>h) (hf:=(fun _=>Ae5)) fun r2 _ h=>Aav 4 h (fun _ h=>h) (fun _ h=>mCal 4 h (fun _ h=>h) fun r4 _ h=>mRet 4 h) fun _ h=>mLen 5 (eI .u32) r2<|mFin 2 h
end q108_
namespace q75_
noncomputable def B:Code:=(Tryz.f46.body).getD .skip
def W:List Nat:=[0,1,4,5,7,8,9,10,11]
def res(r:List api_FD):D×List D:=(.own (r.map Aa0),[])
def C(x0:List api_FD)(x1:Int)(r:List api_FD):Prop:=Ret env 46 [.sl (x0.map Aa0),.lit (.int .u32 x1)] (res r).1 (res r).2
def L1(x0:List api_FD)(x1:Int)(z0:List api_FD)(z1:Int)(φ:List api_FD->Prop):Prop:=Pt env 46 W B [1,1,0,1,0] [(0,.sl (x0.map Aa0)),(1,.lit (.int .u32 x1)),(5,.own (z0.map Aa0)),(8,.sl (x0.map Aa0)),(9,.lit (.int .i64 (x0.length:Int))),(10,.lit (.int .i64 z1))] (Lv env 46 Tryz.f46 2 res φ)
theorem L1_step(x0:List api_FD)(x1:Int)(z0:List api_FD)(z1:Int)(φ:List api_FD->Prop)(h:(if z1<(x0.length:Int)then ∃a1,lget x0 z1=some a1/\(z0.length+1)*8<=140737488355328/\L1 x0 x1 (z0++[(⟨(Aab .u32 a1.Lhs x1),(Aab .u32 a1.Rhs x1)⟩:api_FD)]) (IntKind.wrap .i64 (z1+1)) φ else ∃r4:List api_FD,q94_.C z0 r4/\φ r4)):L1 x0 x1 z0 z1 φ:=mIn<|mAsk 2 h dT dF (fun h=>mIx 4 Aa0 h fun a1 h2 h=>mApp 16 Aa0 z0 ([(⟨(Aab .u32 a1.Lhs x1),(Aab .u32 a1.Rhs x1)⟩:api_FD)]) h fun h=>mFin 6 h) fun h=>mCal 5 h (fun _ h=>h) (hr:=by exact(Abk (Abr (s:=5) (ps:=[]) (l:=z0) (e:=Aa0) (e':=Aa0) (fun _=>rfl) (by kernel_rfl)) Ace)) (hf:=(fun _=>Aah (Aam (e:=Aa0) (fun _=>rfl)) rfl)) fun r4 _ h=>mRet 2 h
theorem enter(x0:List api_FD)(x1:Int)(φ:List api_FD->Prop)(h:L1 x0 x1 ([]) 0 φ):∃r,φ r/\C x0 x1 r:=mEnt (fd:=Tryz.f46) (body:=B) (V:=W) (res:=res)<|mLen 8 Aa0 x0<|mFin 2 h
end q75_
namespace q76_
noncomputable def B:Code:=(Tryz.f64.body).getD .skip
def W:List Nat:=[0,2,3,4,5,6,7,11,37,50]
def res(r:List api_FD):D×List D:=(.own (r.map Aa0),[])
def C(x0 r:List api_FD):Prop:=Ret env 64 [.sl (x0.map Aa0)] (res r).1 (res r).2
def L1(x0 z0:List api_FD)(z1:Int)(φ:List api_FD->Prop):Prop:=Pt env 64 W B [1,1,0,1,0] [(0,.sl (x0.map Aa0)),(3,.own (z0.map Aa0)),(4,.lit (.int .i64 z1))] (Lv env 64 Tryz.f64 1 res φ)
def L2(x0 z0:List api_FD)(z1:Int)(a1:api_FD)(z2:Bool)(z3:Int)(φ:List api_FD->Prop):Prop:=Pt env 64 W B [1,1,0,1,0,0,1,0,0,1,1,0,1,0] [(0,.sl (x0.map Aa0)),(3,.own (z0.map Aa0)),(4,.lit (.int .i64 z1)),(5,.box [.lit (.int .u32 a1.Lhs),.lit (.int .u32 (Aab .u32 a1.Rhs a1.Lhs))]),(6,.lit (.bool z2)),(7,.lit (.int .i64 z3))] (Lv env 64 Tryz.f64 1 res φ)
def L3(x0 z0:List api_FD)(z1:Int)(a1:api_FD)(z2:Bool)(z3:Int)(φ:List api_FD->Prop):Prop:=Pt env 64 W B [1,1,0,1,0,0,1,0,0,1,1,0,1,0,0,1,1] [(0,.sl (x0.map Aa0)),(3,.own (z0.map Aa0)),(4,.lit (.int .i64 z1)),(5,.box [.lit (.int .u32 a1.Lhs),.lit (.int .u32 (Aab .u32 a1.Rhs a1.Lhs))]),(6,.lit (.bool z2)),(7,.lit (.int .i64 z3))] (Lv env 64 Tryz.f64 1 res φ)
def L4(x0 z0:List api_FD)(z1:Int)(φ:List api_FD->Prop):Prop:=Pt env 64 W B [1,1,0,1,0,0,1,1] [(0,.sl (x0.map Aa0)),(3,.own (z0.map Aa0)),(4,.lit (.int .i64 z1))] (Lv env 64 Tryz.f64 1 res φ)
theorem L1_step(x0 z0:List api_FD)(z1:Int)(φ:List api_FD->Prop)(h:(if z1<(x0.length:Int)then ∃a1,lget x0 z1=some a1/\L2 x0 z0 z1 a1 ((Aab .u32 a1.Rhs a1.Lhs)==0) 0 φ else φ z0)):L1 x0 z0 z1 φ:=mIn<|mLen 4 Aa0 x0<|mAsk 0 h dT dF (fun h=>mIx 6 Aa0 h fun a1 h2 h=>mIxf 4 Aa0 h2<|mIxf 4 Aa0 h2<|mFin 16 h) fun h=>mRet 7 h
theorem L2_step(x0 z0:List api_FD)(z1:Int)(a1:api_FD)(z2:Bool)(z3:Int)(φ:List api_FD->Prop)(h:(if z3<(z0.length:Int)then(if z2=true then L3 x0 z0 z1 a1 true z3 φ else ∃a3,lget z0 z3=some a3/\L3 x0 z0 z1 a1 (and (a3.Lhs==a1.Lhs) (and (a3.Rhs==(Aab .u32 a1.Rhs a1.Lhs)) true)) z3 φ)else(if z2=true then L4 x0 z0 z1 φ else(z0.length+1)*8<=140737488355328/\L4 x0 (z0++[(⟨a1.Lhs,(Aab .u32 a1.Rhs a1.Lhs)⟩:api_FD)]) z1 φ))):L2 x0 z0 z1 a1 z2 z3 φ:=mIn<|mLen 4 Aa0 z0<|mAsk 0 h dT dF (fun h=>mAsk 4 h id fls (fun h=>mFin 10 h) fun h=>mIy 3 Aa0 h fun a3 h4 h=>mLd 0 Aa0 h4<|mBi 1 (Azm (t:=51) (xs:=[.lit (.int .u32 a3.Lhs),.lit (.int .u32 a3.Rhs)]) (ys:=[.lit (.int .u32 a1.Lhs),.lit (.int .u32 (Aab .u32 a1.Rhs a1.Lhs))]) (l:=[(a3.Lhs==a1.Lhs),(a3.Rhs==(Aab .u32 a1.Rhs a1.Lhs))]))<|mFin 3 h) fun h=>mAsk 4 h id fls (fun h=>mFin 4 h) fun h=>mApp 7 Aa0 z0 ([(⟨a1.Lhs,(Aab .u32 a1.Rhs a1.Lhs)⟩:api_FD)]) h fun h=>mFin 2 h
theorem L3_step(x0 z0:List api_FD)(z1:Int)(a1:api_FD)(z2:Bool)(z3:Int)(φ:List api_FD->Prop)(h:L2 x0 z0 z1 a1 z2 (IntKind.wrap .i64 (z3+1)) φ):L3 x0 z0 z1 a1 z2 z3 φ:=mIn<|mFin 5 h
theorem L4_step(x0 z0:List api_FD)(z1:Int)(φ:List api_FD->Prop)(h:L1 x0 z0 (IntKind.wrap .i64 (z1+1)) φ):L4 x0 z0 z1 φ:=mIn<|mFin 5 h
theorem enter(x0:List api_FD)(φ:List api_FD->Prop)(h:L1 x0 ([]) 0 φ):∃r,φ r/\C x0 r:=mEnt (fd:=Tryz.f64) (body:=B) (V:=W) (res:=res)<|mFin 9 h
end q76_
namespace q96_
noncomputable def B:Code:=(Tryz.f108.body).getD .skip
def W:List Nat:=[0,1,4,5,9,18]
def res(r:Bool):D×List D:=(.lit (.bool r),[])
def C(x0:List api_FD)(x1:Int)(r:Bool):Prop:=Ret env 108 [.sl (x0.map Aa0),.lit (.int .u32 x1)] (res r).1 (res r).2
def L1(x0:List api_FD)(x1 z0:Int)(φ:Bool->Prop):Prop:=Pt env 108 W B [1,0,1,0] [(0,.sl (x0.map Aa0)),(1,.lit (.int .u32 x1)),(5,.lit (.int .i64 z0))] (Lv env 108 Tryz.f108 2 res φ)
theorem L1_step(x0:List api_FD)(x1 z0:Int)(φ:Bool->Prop)(h:(if z0<(x0.length:Int)then ∃a1,lget x0 z0=some a1/\(if a1.Lhs=x1 then φ true else L1 x0 x1 (IntKind.wrap .i64 (z0+1)) φ)else φ false)):L1 x0 x1 z0 φ:=mIn<|mLen 4 Aa0 x0<|mAsk 0 h dT dF (fun h=>mIx 6 Aa0 h fun a1 h2 h=>mAsk 3 h Aaj Aai (fun h=>mRet 5 h) fun h=>mFin 8 h) fun h=>mRet 6 h
theorem enter(x0:List api_FD)(x1:Int)(φ:Bool->Prop)(h:L1 x0 x1 0 φ):∃r,φ r/\C x0 x1 r:=mEnt (fd:=Tryz.f108) (body:=B) (V:=W) (res:=res)<|mFin 6 h
end q96_
namespace q49_
noncomputable def B:Code:=(Tryz.f107.body).getD .skip
def W:List Nat:=[0,1,2,6,7,11,31]
def res(r:Bool):D×List D:=(.lit (.bool r),[])
def C(x0:List api_FD)(x1 x2:Int)(r:Bool):Prop:=Ret env 107 [.sl (x0.map Aa0),.lit (.int .u32 x1),.lit (.int .u32 x2)] (res r).1 (res r).2
def L1(x0:List api_FD)(x1 x2 z0:Int)(φ:Bool->Prop):Prop:=Pt env 107 W B [1,0,1,0] [(0,.sl (x0.map Aa0)),(1,.lit (.int .u32 x1)),(2,.lit (.int .u32 x2)),(7,.lit (.int .i64 z0))] (Lv env 107 Tryz.f107 3 res φ)
def L2(x0:List api_FD)(x1 x2 z0:Int)(φ:Bool->Prop):Prop:=Pt env 107 W B [1,0,1,0,0,1,1] [(0,.sl (x0.map Aa0)),(1,.lit (.int .u32 x1)),(2,.lit (.int .u32 x2)),(7,.lit (.int .i64 z0))] (Lv env 107 Tryz.f107 3 res φ)
theorem L1_step(x0:List api_FD)(x1 x2 z0:Int)(φ:Bool->Prop)(h:(if z0<(x0.length:Int)then ∃a1,lget x0 z0=some a1/\∃r3:Bool,q105_.C x1 a1.Lhs r3/\(if r3=true then L2 x0 x1 x2 z0 φ else ∃r4:Bool,q105_.C x2 a1.Lhs r4/\(if r4=true then L2 x0 x1 x2 z0 φ else φ false))else φ true)):L1 x0 x1 x2 z0 φ:=mIn<|mLen 4 Aa0 x0<|mAsk 0 h dT dF (fun h=>mIx 7 Aa0 h fun a1 h2 h=>Aav 2 h (fun _ h=>h) (fun _ h=>mFin 14 h) fun _ h=>mIxf 5 Aa0 h2<|Aav 2 h (fun _ h=>h) (fun _ h=>mFin 5 h) fun _ h=>mRet 7 h) fun h=>mRet 6 h
theorem L2_step(x0:List api_FD)(x1 x2 z0:Int)(φ:Bool->Prop)(h:L1 x0 x1 x2 (IntKind.wrap .i64 (z0+1)) φ):L2 x0 x1 x2 z0 φ:=mIn<|mFin 5 h
theorem enter(x0:List api_FD)(x1 x2:Int)(φ:Bool->Prop)(h:L1 x0 x1 x2 0 φ):∃r,φ r/\C x0 x1 x2 r:=mEnt (fd:=Tryz.f107) (body:=B) (V:=W) (res:=res)<|mFin 6 h
end q49_
namespace q40_
noncomputable def B:Code:=(Tryz.f88.body).getD .skip
def W:List Nat:=[0,1,3,4,6,7,31,47]
def res(r:Bool):D×List D:=(.lit (.bool r),[])
def C(x0:List api_FD)(x1:api_Step)(r:Bool):Prop:=Ret env 88 [.sl (x0.map Aa0),.agg [.lit (.int .i64 x1.Kind),.lit (.int .u32 x1.First),.lit (.int .u32 x1.Second)]] (res r).1 (res r).2
theorem enter(x0:List api_FD)(x1:api_Step)(φ:Bool->Prop)(h:(if x1.Kind=1 then(if 0<(x0.length:Int)then ∃r1:Int,q93_.C x1.First r1/\(if r1=1 then(if x1.Second=0 then ∃r2:Bool,q49_.C x0 x1.First x1.First r2/\φ r2 else φ false)else φ false)else φ false)else(if x1.Kind=2 then ∃r3:Bool,q96_.C x0 0 r3/\(if r3=true then ∃r4:Int,q73_.C x0 0 r4/\(if x1.First=r4 then φ (x1.Second==0)else φ false)else φ false)else(if x1.Kind=3 then(if x1.First=x1.Second then φ false else ∃r5:Bool,q96_.C x0 x1.First r5/\(if r5=true then ∃r6:Bool,q96_.C x0 x1.Second r6/\(if r6=true then ∃r7:Int,q73_.C x0 x1.First r7/\∃r8:Int,q73_.C x0 x1.Second r8/\(if r7=r8 then ∃r9:Bool,q49_.C x0 x1.First x1.Second r9/\φ r9 else φ false)else φ false)else φ false))else φ false)))):∃r,φ r/\C x0 x1 r:=mEnt (fd:=Tryz.f88) (body:=B) (V:=W) (res:=res)<|mCon 12 h Aaj Aai (fun h=>mLen 2 Aa0 x0<|mAsk 0 h dT dF (fun h=>mCal 3 h (fun _ h=>h) fun r1 _ h=>mAsk 0 h Aaj Aai (fun h=>mAsk 4 h Aaj Aai (fun h=>mCal 7 h (fun _ h=>h) fun r2 _ h=>mRet 3 h) fun h=>mRet 11 h) fun h=>mRet 16 h) fun h=>mRet 21 h) fun h=>mCon 4 h Aaj Aai (fun h=>Aav 2 h (fun _ h=>h) (fun _ h=>mLo 4 h (fun _ h=>h) fun r4 _ h=>mAsk 0 h Aaj Aai (fun h=>mRet 8 h) fun h=>mRet 8 h) fun _ h=>mRet 14 h) fun h=>mCon 4 h Aaj Aai (fun h=>Ac1 5 h Abv Abu (fun h=>Aav 4 h (fun _ h=>h) (fun _ h=>
 Aav 5 h (fun _ h=>h) (fun _ h=>mLo 5 h (fun _ h=>h) fun r7 _ h=>mCal 3 h (fun _ h=>h) fun r8 _ h=>mAsk 0 h Aaj Aai (fun h=>mCal 7 h (fun _ h=>h) fun r9 _ h=>mRet 3 h) fun h=>mRet 11 h) fun _ h=>mRet 22 h) fun _ h=>mRet 28 h) fun h=>mRet 33 h) fun h=>mRet 4 h
end q40_
namespace q97_
noncomputable def B:Code:=(Tryz.f65.body).getD .skip
def W:List Nat:=[0,2,3,4,5,6,7,8,9,10,11,15,23,30,35,51,59,73]
def res(r:api_Step×Bool):D×List D:=(.tup [.agg [.lit (.int .i64 r.1.Kind),.lit (.int .u32 r.1.First),.lit (.int .u32 r.1.Second)],.lit (.bool r.2)],[])
def C(x0:List api_FD)(r:api_Step×Bool):Prop:=Ret env 65 [.sl (x0.map Aa0)] (res r).1 (res r).2
def L1(r1:List api_FD)(z0:Int)(φ:api_Step×Bool->Prop):Prop:=Pt env 65 W B [1,1,0,1,0] [(2,.box [.lit (.int .i64 0),.lit (.int .u32 0),.lit (.int .u32 0)]),(4,.own (r1.map Aa0)),(5,.lit (.int .i64 z0))] (Lv env 65 Tryz.f65 1 res φ)
def L2(r1:List api_FD)(r4:Int)(z0:List Int)(z1:Int)(φ:api_Step×Bool->Prop):Prop:=Pt env 65 W B [1,1,1,1,1,1,0,1,0] [(2,.box [.lit (.int .i64 0),.lit (.int .u32 0),.lit (.int .u32 0)]),(4,.own (r1.map Aa0)),(7,.box [.lit (.int .i64 2),.lit (.int .u32 r4),.lit (.int .u32 0)]),(8,.own (z0.map (eI .u32))),(9,.lit (.int .i64 z1))] (Lv env 65 Tryz.f65 1 res φ)
def L3(r1:List api_FD)(z0 r4 z1:Int)(r9:List Int)(z2:Int)(φ:api_Step×Bool->Prop):Prop:=Pt env 65 W B [1,1,1,1,1,1,1,1,0,1,0] [(2,.box [.lit (.int .i64 0),.lit (.int .u32 0),.lit (.int .u32 0)]),(4,.own (r1.map Aa0)),(7,.box [.lit (.int .i64 z0),.lit (.int .u32 r4),.lit (.int .u32 z1)]),(8,.own (r9.map (eI .u32))),(10,.lit (.int .i64 z2))] (Lv env 65 Tryz.f65 1 res φ)
def L4(r1:List api_FD)(z0 r4 z1:Int)(r9:List Int)(z2 z3:Int)(φ:api_Step×Bool->Prop):Prop:=Pt env 65 W B [1,1,1,1,1,1,1,1,0,1,0,0,1,0,0,1,0] [(2,.box [.lit (.int .i64 0),.lit (.int .u32 0),.lit (.int .u32 0)]),(4,.own (r1.map Aa0)),(7,.box [.lit (.int .i64 z0),.lit (.int .u32 r4),.lit (.int .u32 z1)]),(8,.own (r9.map (eI .u32))),(10,.lit (.int .i64 z2)),(11,.lit (.int .i64 z3))] (Lv env 65 Tryz.f65 1 res φ)
theorem L1_step(r1:List api_FD)(z0:Int)(φ:api_Step×Bool->Prop)(h:(if z0<32 then 0<=z0/\∃r3:Bool,q40_.C r1 (⟨1,(shlw .u32 1 z0),0⟩:api_Step) r3/\(if r3=true then φ ((⟨1,(shlw .u32 1 z0),0⟩:api_Step),true)else L1 r1 (IntKind.wrap .i64 (z0+1)) φ)else ∃r4:Int,q73_.C r1 0 r4/\∃r5:Bool,q40_.C r1 (⟨2,r4,0⟩:api_Step) r5/\(if r5=true then φ ((⟨2,r4,0⟩:api_Step),true)else L2 r1 r4 ([]) 0 φ))):L1 r1 z0 φ:=mIn<|mAsk 3 h dT dF (fun h=>h.elim fun h2 h=>mBi 5 (Azn (t:=49) (q:=.u32) (q':=.i64) (i1:=1) h2)<|Aav 7 h (fun _ h=>h) (hr:=by exact(Abk (Abr (s:=4) (ps:=[]) (l:=r1) (e:=Aa0) (e':=Aa0) (fun _=>rfl) (by kernel_rfl)) (pr_k Ace))) (fun _ h=>mRet 7 h) fun _ h=>mFin 8 h) fun h=>mCal 5 h (fun _ h=>h) (hr:=by exact(Abk (Abr (s:=4) (ps:=[]) (l:=r1) (e:=Aa0) (e':=Aa0) (fun _=>rfl) (by kernel_rfl)) (pr_k Ace))) fun r4 _ h=>Aav 7 h (fun _ h=>h) (hr:=by exact(Abk (Abr (s:=4) (ps:=[]) (l:=r1) (e:=Aa0) (e':=Aa0) (fun _=>rfl) (by kernel_rfl)) (pr_k Ace))) (fun _ h=>mRet 7 h) fun _ h=>mFin 9 h
theorem L2_step(r1:List api_FD)(r4:Int)(z0:List Int)(z1:Int)(φ:api_Step×Bool->Prop)(h:(if z1<(r1.length:Int)then ∃a6,lget r1 z1=some a6/\(z0.length+1)*4<=140737488355328/\L2 r1 r4 (z0++[a6.Lhs]) (IntKind.wrap .i64 (z1+1)) φ else ∃r9:List Int,q72_.C z0 r9/\L3 r1 2 r4 0 r9 0 φ)):L2 r1 r4 z0 z1 φ:=mIn<|mLen 4 Aa0 r1<|mAsk 0 h dT dF (fun h=>mIy 7 Aa0 h fun a6 h7 h=>mLd 1 Aa0 h7<|mApp 1 (eI .u32) z0 ([a6.Lhs]) h fun h=>mFin 7 h) fun h=>mCal 5 h (fun _ h=>h) (hr:=by exact(Abk (Abr (s:=8) (ps:=[]) (l:=z0) (e:=(eI .u32)) (e':=(eI .u32)) (fun _=>rfl) (by kernel_rfl)) Ace)) (hf:=(fun _=>Aah (Aam (e:=(eI .u32)) (fun _=>rfl)) rfl)) fun r9 _ h=>mFin 5 h
theorem L3_step(r1:List api_FD)(z0 r4 z1:Int)(r9:List Int)(z2:Int)(φ:api_Step×Bool->Prop)(h:(if z2<(r9.length:Int)then L4 r1 z0 r4 z1 r9 z2 (IntKind.wrap .i64 (z2+1)) φ else φ ((⟨0,0,0⟩:api_Step),false))):L3 r1 z0 r4 z1 r9 z2 φ:=mIn<|mLen 4 (eI .u32) r9<|mAsk 0 h dT dF (fun h=>mFin 8 h) fun h=>mRet 8 h
theorem L4_step(r1:List api_FD)(z0 r4 z1:Int)(r9:List Int)(z2 z3:Int)(φ:api_Step×Bool->Prop)(h:(if z3<(r9.length:Int)then ∃a10,lget r9 z2=some a10/\∃a12,lget r9 z3=some a12/\∃r14:Bool,q40_.C r1 (⟨3,a10,a12⟩:api_Step) r14/\(if r14=true then φ ((⟨3,a10,a12⟩:api_Step),true)else L4 r1 3 a10 a12 r9 z2 (IntKind.wrap .i64 (z3+1)) φ)else L3 r1 z0 r4 z1 r9 (IntKind.wrap .i64 (z2+1)) φ)):L4 r1 z0 r4 z1 r9 z2 z3 φ:=mIn<|mLen 4 (eI .u32) r9<|mAsk 0 h dT dF (fun h=>mIy 6 (eI .u32) h fun a10 h11 h=>mLd 0 (eI .u32) h11<|mIy 2 (eI .u32) h fun a12 h13 h=>mLd 0 (eI .u32) h13<|Aav 6 h (fun _ h=>h) (hr:=by exact(Abk (Abr (s:=4) (ps:=[]) (l:=r1) (e:=Aa0) (e':=Aa0) (fun _=>rfl) (by kernel_rfl)) (pr_k Ace))) (fun _ h=>mRet 7 h) fun _ h=>mFin 8 h) fun h=>mFin 8 h
theorem enter(x0:List api_FD)(φ:api_Step×Bool->Prop)(h:∃r1:List api_FD,q76_.C x0 r1/\L1 r1 0 φ):∃r,φ r/\C x0 r:=mEnt (fd:=Tryz.f65) (body:=B) (V:=W) (res:=res)<|mCal 6 h (fun _ h=>h) (hf:=(fun _=>Aah (Aam (e:=Aa0) (fun _=>rfl)) rfl)) fun r1 _ h=>mFin 5 h
end q97_
namespace q77_
noncomputable def B:Code:=(Tryz.f66.body).getD .skip
def W:List Nat:=[0,1,3,4,5,6,7,8,14,23]
def res(r:List api_FD×Int):D×List D:=(.tup [.own (r.1.map Aa0),.lit (.int .i64 r.2)],[])
def C(x0:List api_FD)(x1:api_Step)(r:List api_FD×Int):Prop:=Ret env 66 [.sl (x0.map Aa0),.agg [.lit (.int .i64 x1.Kind),.lit (.int .u32 x1.First),.lit (.int .u32 x1.Second)]] (res r).1 (res r).2
def L1(r1:List api_FD)(z0 z1:Int)(φ:List api_FD×Int->Prop):Prop:=Pt env 66 W B [1,1,1,1,0,1,0] [(6,.own (r1.map Aa0)),(7,.lit (.int .u32 z0)),(8,.lit (.int .i64 z1))] (Lv env 66 Tryz.f66 2 res φ)
theorem L1_step(r1:List api_FD)(z0 z1:Int)(φ:List api_FD×Int->Prop)(h:(if z1<(r1.length:Int)then ∃a3,lget r1 z1=some a3/\L1 (lset r1 z1 (⟨(Aab .u32 a3.Lhs z0),(Aab .u32 a3.Rhs z0)⟩:api_FD)) z0 (IntKind.wrap .i64 (z1+1)) φ else ∃r5:List api_FD,q76_.C r1 r5/\φ (r5,0))):L1 r1 z0 z1 φ:=mIn<|mLen 4 Aa0 r1<|mAsk 0 h dT dF (fun h=>mIy 8 Aa0 h fun a3 h4 h=>mLd 1 Aa0 h4<|mIyf 4 Aa0 h4<|mLd 1 Aa0 h4<|mIyf 3 Aa0 h4<|mSto 0 Aa0 (⟨(Aab .u32 a3.Lhs z0),(Aab .u32 a3.Rhs z0)⟩:api_FD) h4<|mFin 6 h) fun h=>mCal 5 h (fun _ h=>h) (hr:=by exact(Abk (Abr (s:=6) (ps:=[]) (l:=r1) (e:=Aa0) (e':=Aa0) (fun _=>rfl) (by kernel_rfl)) Ace)) (hf:=(fun _=>Aah (Aam (e:=Aa0) (fun _=>rfl)) rfl)) fun r5 _ h=>mRet 3 h
theorem enter(x0:List api_FD)(x1:api_Step)(φ:List api_FD×Int->Prop)(h:∃r1:List api_FD,q76_.C x0 r1/\∃r2:Bool,q40_.C r1 x1 r2/\(if r2=true then L1 r1 (bOr .u32 x1.First x1.Second) 0 φ else φ ([],1))):∃r,φ r/\C x0 x1 r:=mEnt (fd:=Tryz.f66) (body:=B) (V:=W) (res:=res)<|mCal 7 h (fun _ h=>h) (hf:=(fun _=>Aah (Aam (e:=Aa0) (fun _=>rfl)) rfl)) fun r1 _ h=>Aav 5 h (fun _ h=>h) (hr:=by exact(Abk (Abr (s:=6) (ps:=[]) (l:=r1) (e:=Aa0) (e':=Aa0) (fun _=>rfl) (by kernel_rfl)) (pr_k Ace))) (fun _ h=>mFin 15 h) fun _ h=>mRet 7 h
end q77_
namespace q98_
noncomputable def B:Code:=(Tryz.f23.body).getD .skip
def W:List Nat:=[0,1,4,5,6,7,8,9,10,11,16,26]
def res(r:List api_Step×List api_FD×Int):D×List D:=(.tup [.own (r.1.map Ad1),.own (r.2.1.map Aa0),.lit (.int .i64 r.2.2)],[])
def C(x0:Int)(x1:List api_FD)(r:List api_Step×List api_FD×Int):Prop:=Ret env 23 [.lit (.int .i64 x0),.sl (x1.map Aa0)] (res r).1 (res r).2
def L1(r2:List api_FD)(z0:List api_Step)(φ:List api_Step×List api_FD×Int->Prop):Prop:=Pt env 23 W B [1,1,1,1,0] [(8,.own (r2.map Aa0)),(9,.own (z0.map Ad1))] (Lv env 23 Tryz.f23 2 res φ)
theorem L1_step(r2:List api_FD)(z0:List api_Step)(φ:List api_Step×List api_FD×Int->Prop)(h:∃r3:api_Step×Bool,q108_.C r2 r3/\(if r3.2=true then(z0.length+1)*16<=140737488355328/\∃r5:List api_FD,q75_.C r2 (bOr .u32 r3.1.First r3.1.Second) r5/\L1 r5 (z0++[r3.1]) φ else φ (z0,r2,0))):L1 r2 z0 φ:=mIn<|mCal 3 h (fun _ h=>h) (hr:=by exact(Abk (Abr (s:=8) (ps:=[]) (l:=r2) (e:=Aa0) (e':=Aa0) (fun _=>rfl) (by kernel_rfl)) Ace)) (hf:=(fun _=>Aah (Ach (Aa7 (Ae7 (Aa7 rfl (Aa7 rfl (Aa7 rfl Aax)))) (Aa7 rfl Aax))) rfl)) fun r3 _ h=>mAsk 8 h id fls (fun h=>Bbb 8 Ad1 z0 ([r3.1]) h fun h=>mCal 6 h (fun _ h=>h) (hr:=by exact(Abk (Abr (s:=8) (ps:=[]) (l:=r2) (e:=Aa0) (e':=Aa0) (fun _=>rfl) (by kernel_rfl)) (pr_k Ace))) (hf:=(fun _=>Aah (Aam (e:=Aa0) (fun _=>rfl)) rfl)) fun r5 _ h=>mFin 3 h) fun h=>mRet 10 h
theorem enter(x0:Int)(x1:List api_FD)(φ:List api_Step×List api_FD×Int->Prop)(h:∃r1:Int,q110_.C x0 x1 r1/\(if r1=0 then ∃r2:List api_FD,q94_.C x1 r2/\L1 r2 ([]) φ else φ ([],[],r1))):∃r,φ r/\C x0 x1 r:=mEnt (fd:=Tryz.f23) (body:=B) (V:=W) (res:=res)<|mCal 8 h (fun _ h=>h) fun r1 _ h=>Ac1 4 h Abv Abu (fun h=>mRet 8 h) fun h=>mCal 5 h (fun _ h=>h) (hf:=(fun _=>Aah (Aam (e:=Aa0) (fun _=>rfl)) rfl)) fun r2 _ h=>mFin 5 h
end q98_
namespace q78_
noncomputable def B:Code:=(Tryz.f34.body).getD .skip
def W:List Nat:=[0,1,4,5,6,7,8,9,10,11,16,26]
def res(r:List api_Step×List api_FD×Int):D×List D:=(.tup [.own (r.1.map Ad1),.own (r.2.1.map Aa0),.lit (.int .i64 r.2.2)],[])
def C(x0:Int)(x1:List api_FD)(r:List api_Step×List api_FD×Int):Prop:=Ret env 34 [.lit (.int .i64 x0),.sl (x1.map Aa0)] (res r).1 (res r).2
def L1(z0:List api_Step)(r2:List api_FD)(φ:List api_Step×List api_FD×Int->Prop):Prop:=Pt env 34 W B [1,1,1,1,0] [(8,.own (z0.map Ad1)),(9,.own (r2.map Aa0))] (Lv env 34 Tryz.f34 2 res φ)
theorem L1_step(z0:List api_Step)(r2:List api_FD)(φ:List api_Step×List api_FD×Int->Prop)(h:∃r3:api_Step×Bool,q97_.C r2 r3/\(if r3.2=true then(z0.length+1)*16<=140737488355328/\∃r5:List api_FD×Int,q77_.C r2 r3.1 r5/\L1 (z0++[r3.1]) r5.1 φ else φ (z0,r2,0))):L1 z0 r2 φ:=mIn<|mCal 3 h (fun _ h=>h) (hr:=by exact(Abk (Abr (s:=9) (ps:=[]) (l:=r2) (e:=Aa0) (e':=Aa0) (fun _=>rfl) (by kernel_rfl)) Ace)) (hf:=(fun _=>Aah (Ach (Aa7 (Ae7 (Aa7 rfl (Aa7 rfl (Aa7 rfl Aax)))) (Aa7 rfl Aax))) rfl)) fun r3 _ h=>mAsk 8 h id fls (fun h=>mApp 8 Ad1 z0 ([r3.1]) h fun h=>mCal 5 h (fun _ h=>h) (hr:=by exact(Abk (Abr (s:=9) (ps:=[]) (l:=r2) (e:=Aa0) (e':=Aa0) (fun _=>rfl) (by kernel_rfl)) (pr_k Ace))) (hf:=(fun _=>Aah (Ach (Aa7 (Aam (e:=Aa0) (fun _=>rfl)) (Aa7 rfl Aax))) rfl)) fun r5 _ h=>mFin 5 h) fun h=>mRet 10 h
theorem enter(x0:Int)(x1:List api_FD)(φ:List api_Step×List api_FD×Int->Prop)(h:∃r1:Int,q61_.C x0 x1 r1/\(if r1=0 then ∃r2:List api_FD,q76_.C x1 r2/\L1 ([]) r2 φ else φ ([],[],r1))):∃r,φ r/\C x0 x1 r:=mEnt (fd:=Tryz.f34) (body:=B) (V:=W) (res:=res)<|mCal 8 h (fun _ h=>h) fun r1 _ h=>Ac1 4 h Abv Abu (fun h=>mRet 8 h) fun h=>mCal 8 h (fun _ h=>h) (hf:=(fun _=>Aah (Aam (e:=Aa0) (fun _=>rfl)) rfl)) fun r2 _ h=>mFin 2 h
end q78_
namespace q41_
noncomputable def B:Code:=(Tryz.f24.body).getD .skip
def W:List Nat:=[0,1,4,5,6,7,8]
def res(r:Bool×Int):D×List D:=(.tup [.lit (.bool r.1),.lit (.int .i64 r.2)],[])
def C(x0:Int)(x1:List api_FD)(r:Bool×Int):Prop:=Ret env 24 [.lit (.int .i64 x0),.sl (x1.map Aa0)] (res r).1 (res r).2
theorem enter(x0:Int)(x1:List api_FD)(φ:Bool×Int->Prop)(h:∃r1:List api_Step×List api_FD×Int,q98_.C x0 x1 r1/\(if r1.2.2=0 then φ (((r1.2.1.length:Int)==0),r1.2.2)else φ (false,r1.2.2))):∃r,φ r/\C x0 x1 r:=mEnt (fd:=Tryz.f24) (body:=B) (V:=W) (res:=res)<|mCal 7 h (fun _ h=>h) (hf:=(fun _=>Aah (Ach (Aa7 (Aam (e:=Ad1) (fun _=>rfl)) (Aa7 (Aam (e:=Aa0) (fun _=>rfl)) (Aa7 rfl Aax)))) rfl)) fun r1 _ h=>mAsk 10 h Aaj Aai (fun h=>mLen 2 Aa0 r1.2.1<|mRet 6 h) fun h=>mRet 9 h
end q41_
namespace q99_
noncomputable def B:Code:=(Tryz.f80.body).getD .skip
def W:List Nat:=[0,2]
def res(r:Bool):D×List D:=(.lit (.bool r),[])
def C(x0:Int)(r:Bool):Prop:=Ret env 80 [.lit (.int .i64 x0)] (res r).1 (res r).2
theorem enter(x0:Int)(φ:Bool->Prop)(h:φ (x0 != x0)):∃r,φ r/\C x0 r:=mEnt (fd:=Tryz.f80) (body:=B) (V:=W) (res:=res)<|mRet 9 h
end q99_
namespace q57_
noncomputable def B:Code:=(Tryz.f57.body).getD .skip
def W:List Nat:=[0,1,4,5,6,11,12,13,16,19]
def res(r:Int):D×List D:=(.lit (.int .i64 r),[])
def C(x0 x1 r:Int):Prop:=Ret env 57 [.lit (.int .i64 x0),.lit (.int .i64 x1)] (res r).1 (res r).2
theorem enter(x0 x1:Int)(φ:Int->Prop)(h:∃r1:Bool,q99_.C x0 r1/\∃r2:Bool,q99_.C x1 r2/\(if r1=true then(if r2=true then φ 0 else φ (-1))else(if r2=true then φ 1 else(if x0<x1 then φ (-1)else(if x1<x0 then φ 1 else φ 0))))):∃r,φ r/\C x0 x1 r:=mEnt (fd:=Tryz.f57) (body:=B) (V:=W) (res:=res)<|mCal 5 h (fun _ h=>h) fun r1 _ h=>mCal 4 h (fun _ h=>h) fun r2 _ h=>mAsk 3 h id fls (fun h=>mAsk 3 h id fls (fun h=>mRet 5 h) fun h=>mRet 6 h) fun h=>mAsk 4 h id fls (fun h=>mRet 5 h) fun h=>mAsk 6 h dT dF (fun h=>mRet 5 h) fun h=>mAsk 6 h dT dF (fun h=>mRet 5 h) fun h=>mRet 6 h
end q57_
namespace q58_
noncomputable def B:Code:=(Tryz.f56.body).getD .skip
def W:List Nat:=[0,1,2,3,4]
def res(r:Int):D×List D:=(.lit (.int .i64 r),[])
def C(x0 x1:tractable_kept)(r:Int):Prop:=Ret env 56 [.agg [.sl (x0.ids.map (eI .i64)),.lit (.int .i64 x0.weight)],.agg [.sl (x1.ids.map (eI .i64)),.lit (.int .i64 x1.weight)]] (res r).1 (res r).2
theorem enter(x0 x1:tractable_kept)(φ:Int->Prop)(h:∃r1:Int,q57_.C x0.weight x1.weight r1/\φ r1):∃r,φ r/\C x0 x1 r:=mEnt (fd:=Tryz.f56) (body:=B) (V:=W) (res:=res)<|mCal 10 h (fun _ h=>h) fun r1 _ h=>mRet 2 h
end q58_
namespace q0_
noncomputable def B:Code:=(Tryz.f55.body).getD .skip
def W:List Nat:=[0,1,4,5,6,9,17,27]
def res(r:tractable_kept):D×List D:=(.agg [.sl (r.ids.map (eI .i64)),.lit (.int .i64 r.weight)],[])
def C(x0:List tractable_kept)(r:tractable_kept):Prop:=Ret env 55 [.sl (x0.map Aa6),.fn 56 []] (res r).1 (res r).2
def L1(x0:List tractable_kept)(a1:tractable_kept)(z0:Int)(φ:tractable_kept->Prop):Prop:=Pt env 55 W B [1,1,1,0,1,0] [(0,.sl (x0.map Aa6)),(1,.fn 56 []),(4,.box [.own [],.lit (.int .i64 0)]),(5,.box [.sl (a1.ids.map (eI .i64)),.lit (.int .i64 a1.weight)]),(6,.lit (.int .i64 z0))] (Lv env 55 Tryz.f55 2 res φ)
def L2(x0:List tractable_kept)(a3:tractable_kept)(z0:Int)(φ:tractable_kept->Prop):Prop:=Pt env 55 W B [1,1,1,0,1,0,0,1,1] [(0,.sl (x0.map Aa6)),(1,.fn 56 []),(4,.box [.own [],.lit (.int .i64 0)]),(5,.box [.sl (a3.ids.map (eI .i64)),.lit (.int .i64 a3.weight)]),(6,.lit (.int .i64 z0))] (Lv env 55 Tryz.f55 2 res φ)
theorem L1_step(x0:List tractable_kept)(a1:tractable_kept)(z0:Int)(φ:tractable_kept->Prop)(h:(if z0<(x0.length:Int)then ∃a3,lget x0 z0=some a3/\∃r5:Int,q58_.C a3 a1 r5/\(if 0<r5 then L2 x0 a3 z0 φ else L2 x0 a1 z0 φ)else φ a1)):L1 x0 a1 z0 φ:=mIn<|mLen 4 Aa6 x0<|mAsk 0 h dT dF (fun h=>mIx 7 Aa6 h fun a3 h4 h=>mCal 2 h (fun _ h=>h) fun r5 _ h=>mAsk 0 h dT dF (fun h=>mIxf 5 Aa6 h4<|mFin 3 h) fun h=>mFin 3 h) fun h=>mRet 7 h
theorem L2_step(x0:List tractable_kept)(a3:tractable_kept)(z0:Int)(φ:tractable_kept->Prop)(h:L1 x0 a3 (IntKind.wrap .i64 (z0+1)) φ):L2 x0 a3 z0 φ:=mIn<|mFin 5 h
theorem enter(x0:List tractable_kept)(φ:tractable_kept->Prop)(h:(if(x0.length:Int)<1 then False else ∃a1,lget x0 0=some a1/\L1 x0 a1 1 φ)):∃r,φ r/\C x0 r:=mEnt (fd:=Tryz.f55) (body:=B) (V:=W) (res:=res)<|mLen 5 Aa6 x0<|mAsk 0 h dT dF (fun h=>h.elim) fun h=>mIx 5 Aa6 h fun a1 h2 h=>mFin 7 h
end q0_
namespace q100_
noncomputable def B:Code:=(Tryz.f31.body).getD .skip
def W:List Nat:=[0,1,4,5,6,7,8,9,10,11,12,13,20,40,41,42,43,57,62,63,67,71]
def res(r:tractable_kept×Int):D×List D:=(.tup [.agg [.sl (r.1.ids.map (eI .i64)),.lit (.int .i64 r.1.weight)],.lit (.int .i64 r.2)],[])
def C(x0:List tractable_entry)(x1:List api_FD)(r:tractable_kept×Int):Prop:=Ret env 31 [.sl (x0.map Aa3),.sl (x1.map Aa0)] (res r).1 (res r).2
def L1(r1:api_Step×Bool)(r2:List api_FD)(r3:List (List tractable_entry))(z0:List tractable_kept)(z1:Int)(φ:tractable_kept×Int->Prop):Prop:=Pt env 31 W B [1,1,1,1,1,1,0,1,0] [(4,.box [.own [],.lit (.int .i64 0)]),(6,.box [.lit (.int .i64 r1.1.Kind),.lit (.int .u32 r1.1.First),.lit (.int .u32 r1.1.Second)]),(8,.sl (r2.map Aa0)),(9,.sl (r3.map (eSl Aa3))),(10,.own (z0.map Aa6)),(40,.sl (r3.map (eSl Aa3))),(41,.lit (.int .i64 (r3.length:Int))),(42,.lit (.int .i64 z1))] (Lv env 31 Tryz.f31 2 res φ)
theorem L1_step(r1:api_Step×Bool)(r2:List api_FD)(r3:List (List tractable_entry))(z0:List tractable_kept)(z1:Int)(φ:tractable_kept×Int->Prop)(h:(if z1<(r3.length:Int)then ∃a6,lget r3 z1=some a6/\∃r8:tractable_kept×Int,q100_.C a6 r2 r8/\∃a9,lget z0 z1=some a9/\(if r8.2=0 then L1 r1 r2 r3 (lset z0 z1 r8.1) (IntKind.wrap .i64 (z1+1)) φ else φ ((⟨[],0⟩:tractable_kept),r8.2))else(if r1.1.Kind=1 then ∃r11:tractable_kept,q107_.C z0 r11/\φ (r11,0)else(if r1.1.Kind=2 then(if(z0.length:Int)=0 then φ ((⟨[],0⟩:tractable_kept),0)else ∃r12:tractable_kept,q0_.C z0 r12/\φ (r12,0))else ∃r13:tractable_kept×Int,q89_.C r3 z0 r1.1 r13/\φ (r13.1,r13.2))))):L1 r1 r2 r3 z0 z1 φ:=mIn<|mAsk 2 h dT dF (fun h=>mIx 5 (eSl Aa3) h fun a6 h7 h=>mCal 12 h (fun _ h=>h) (hf:=(fun _=>Ae5)) fun r8 _ h=>mIy 3 Aa6 h fun a9 h10 h=>mSto 0 Aa6 r8.1 h10<|Ac1 4 h Abv Abu (fun h=>mRet 8 h) fun h=>mFin 7 h) fun h=>mCon 11 h Aaj Aai (fun h=>mCal 2 h (fun _ h=>h) (hr:=by exact(Abk (Abr (s:=10) (ps:=[]) (l:=z0) (e:=Aa6) (e':=Aa6) (fun _=>rfl) (by kernel_rfl)) Ace)) (hf:=(fun _=>Aah (Ae7 (Aa7 (Aam (e:=(eI .i64)) (fun _=>rfl)) (Aa7 rfl Aax))) rfl)) fun r11 _ h=>mReg 2 [(4,.box [.sl (r11.ids.map (eI .i64)),.lit (.int .i64 r11.weight)]),(5,.lit (.int .i64 0))] (Al9 (F0:=[(4,.box [.own (r11.ids.map (eI .i64)),.lit (.int .i64 r11.weight)]),(5,.lit (.int .i64 0))]) (l:=r11.ids) (e:=(eI .i64)) (e':=(eI .i64)) (s:=4) (x:=.lit (.int .i64 r11.weight)) (by kernel_rfl) (by kernel_rfl) (by kernel_rfl) (by kernel_rfl) (by kernel_rfl) (fun _=>rfl) (by kernel_rfl) (by kernel_rfl)) <|
 mRet 0 h) fun h=>mCon 4 h Aaj Aai (fun h=>mLen 2 Aa6 z0<|mAsk 0 h Aaj Aai (fun h=>mRet 7 h) fun h=>Bnc 5 (hh:=56) (s:=10) (ps:=[]) (l:=z0) (e:=Aa6) (e':=Aa6) h (fun _ h=>h) (fun _=>rfl) (hr:=by exact(Abk (Abr (s:=10) (ps:=[]) (l:=z0) (e:=Aa6) (e':=Aa6) (fun _=>rfl) (by kernel_rfl)) (pr_k Ace))) (k:=fun r12 _ h=>mRet 3 h) (k2:=fun r12 _ h=>mRet 3 h)) fun h=>mCal 5 h (fun _ h=>h) (hr:=by exact(pr_k (Abk (Abr (s:=10) (ps:=[]) (l:=z0) (e:=Aa6) (e':=Aa6) (fun _=>rfl) (by kernel_rfl)) (pr_k Ace)))) (hf:=(fun _=>Aah (Ach (Aa7 (Ae7 (Aa7 (Aam (e:=(eI .i64)) (fun _=>rfl)) (Aa7 rfl Aax))) (Aa7 rfl Aax))) rfl)) fun r13 _ h=>mReg 4 [(4,.box [.sl (r13.1.ids.map (eI .i64)),.lit (.int .i64 r13.1.weight)]),(5,.lit (.int .i64 r13.2))] (Al9 (F0:=[(4,.box [.own (r13.1.ids.map (eI .i64)),.lit (.int .i64 r13.1.weight)]),(5,.lit (.int .i64 r13.2))]) (l:=r13.1.ids) (e:=(eI .i64)) (e':=(eI .i64)) (s:=4) (x:=.lit (.int .i64 r13.1.weight)) (by kernel_rfl) (by kernel_rfl) (by kernel_rfl) (by kernel_rfl) (by kernel_rfl) (fun _=>rfl) (by kernel_rfl) (by kernel_rfl))<|mRet 0 h
theorem enter(x0:List tractable_entry)(x1:List api_FD)(φ:tractable_kept×Int->Prop)(h:∃r1:api_Step×Bool,q108_.C x1 r1/\(if r1.2=true then ∃r2:List api_FD,q75_.C x1 (bOr .u32 r1.1.First r1.1.Second) r2/\∃r3:List (List tractable_entry),q67_.C x0 (bOr .u32 r1.1.First r1.1.Second) r3/\(0<=(r3.length:Int)/\(r3.length:Int)*32<=281474976710656)/\L1 r1 r2 r3 (zA r3.length (⟨[],0⟩:tractable_kept)) 0 φ else ∃r5:tractable_kept,q112_.C x0 r5/\φ (r5,0))):∃r,φ r/\C x0 x1 r:=mEnt (fd:=Tryz.f31) (body:=B) (V:=W) (res:=res)<|mCal 6 h (fun _ h=>h) (hf:=(fun _=>Aah (Ach (Aa7 (Ae7 (Aa7 rfl (Aa7 rfl (Aa7 rfl Aax)))) (Aa7 rfl Aax))) rfl)) fun r1 _ h=>mAsk 8 h id fls (fun h=>Akn 11 h (fun _ h=>h) (fun(r2:List api_FD)=>Aov (l:=r2) (e:=Aa0) (e':=Aa0) rfl (fun _=>rfl)) (hf:=(fun _=>Aah (Aam (e:=Aa0) (fun _=>rfl)) rfl)) fun r2 _ h=>Akn 9 h (fun _ h=>h) (fun(r3:List (List tractable_entry))=>Aov (l:=r3) (e:=(eOw Aa3)) (e':=(eSl Aa3)) rfl (Fzn.ow (fun _=>rfl))) (hf:=(fun _=>Ae5)) fun r3 _ h=>mLen 4 (eSl Aa3) r3<|h.elim fun h4 h=>mVl 0 (Ad9 (t:=113) (x:=(.tmp 38)) (y:=(.tmp 38)) (q:=.i64) (i:=(r3.length:Int)) (et:=84) (z:=.agg [.own [],.lit (.int .i64 0)]) (e:=Afh) (a:=(⟨[],0⟩:tractable_kept)) (k:=32) (by kernel_rfl) (by kernel_rfl) (by kernel_rfl) (by kernel_rfl) (by kernel_rfl) (by kernel_rfl) (by kernel_rfl) (by kernel_rfl) (by kernel_rfl) (by kernel_rfl) h4.1 h4.2) <|
 mReg 1 [(4,.box [.own [],.lit (.int .i64 0)]),(6,.box [.lit (.int .i64 r1.1.Kind),.lit (.int .u32 r1.1.First),.lit (.int .u32 r1.1.Second)]),(8,.sl (r2.map Aa0)),(9,.sl (r3.map (eSl Aa3))),(10,.own ((zA r3.length (⟨[],0⟩:tractable_kept)).map Aa6))] (Aze (F0:=[(4,.box [.own [],.lit (.int .i64 0)]),(6,.box [.lit (.int .i64 r1.1.Kind),.lit (.int .u32 r1.1.First),.lit (.int .u32 r1.1.Second)]),(8,.sl (r2.map Aa0)),(9,.sl (r3.map (eSl Aa3))),(10,.own ((zA r3.length (⟨[],0⟩:tractable_kept)).map Afh))]) (l:=(zA r3.length (⟨[],0⟩:tractable_kept))) (e:=Afh) (e':=Aa6) (s:=10) (by kernel_rfl) (by kernel_rfl) (by kernel_rfl) (fun _=>⟨_,_,_,rfl,rfl,rfl,Ac9 (fun _=>rfl) _⟩) (by kernel_rfl) (by kernel_rfl))<|mLen 2 (eSl Aa3) r3<|mFin 2 h) fun h=>mCal 5 h (fun _ h=>h) (hf:=(fun _=>Aah (Ae7 (Aa7 (Aam (e:=(eI .i64)) (fun _=>rfl)) (Aa7 rfl Aax))) rfl)) fun r5 _ h=>mReg 2 [(4,.box [.sl (r5.ids.map (eI .i64)),.lit (.int .i64 r5.weight)]),(5,.lit (.int .i64 0))] (Al9 (F0:=[(4,.box [.own (r5.ids.map (eI .i64)),.lit (.int .i64 r5.weight)]),(5,.lit (.int .i64 0))]) (l:=r5.ids) (e:=(eI .i64)) (e':=(eI .i64)) (s:=4) (x:=.lit (.int .i64 r5.weight)) (by kernel_rfl) (by kernel_rfl) (by kernel_rfl) (by kernel_rfl) (by kernel_rfl) (fun _=>rfl) (by kernel_rfl) (by kernel_rfl))<|mRet 0 h
end q100_
namespace q28_
noncomputable def B:Code:=(Tryz.f40.body).getD .skip
def W:List Nat:=[0,1,4,5,7,8,9,16]
def res(r:Int):D×List D:=(.lit (.int .i64 r),[])
def C(x0:List Int)(x1 r:Int):Prop:=Ret env 40 [.sl (x0.map (eI .i64)),.lit (.int .i64 x1)] (res r).1 (res r).2
def L1(x0:List Int)(x1 z0:Int)(φ:Int->Prop):Prop:=Pt env 40 W B [1,0,1,0] [(0,.sl (x0.map (eI .i64))),(1,.lit (.int .i64 x1)),(7,.lit (.int .i64 (x0.length:Int))),(8,.lit (.int .i64 z0))] (Lv env 40 Tryz.f40 2 res φ)
theorem L1_step(x0:List Int)(x1 z0:Int)(φ:Int->Prop)(h:(if z0<(x0.length:Int)then ∃a1,lget x0 z0=some a1/\(if x1=a1 then φ z0 else L1 x0 x1 (IntKind.wrap .i64 (z0+1)) φ)else φ (-1))):L1 x0 x1 z0 φ:=mIn<|mAsk 2 h dT dF (fun h=>mIx 11 (eI .i64) h fun a1 h2 h=>mAsk 1 h Aaj Aai (fun h=>mRet 6 h) fun h=>mFin 7 h) fun h=>mRet 6 h
theorem enter(x0:List Int)(x1:Int)(φ:Int->Prop)(h:L1 x0 x1 0 φ):∃r,φ r/\C x0 x1 r:=mEnt (fd:=Tryz.f40) (body:=B) (V:=W) (res:=res)<|mLen 5 (eI .i64) x0<|mFin 2 h
end q28_
namespace q23_
noncomputable def B:Code:=(Tryz.f16.body).getD .skip
def W:List Nat:=[0,1,4]
def res(r:Bool):D×List D:=(.lit (.bool r),[])
def C(x0:List Int)(x1:Int)(r:Bool):Prop:=Ret env 16 [.sl (x0.map (eI .i64)),.lit (.int .i64 x1)] (res r).1 (res r).2
theorem enter(x0:List Int)(x1:Int)(φ:Bool->Prop)(h:∃r1:Int,q28_.C x0 x1 r1/\φ (decide (0<=r1))):∃r,φ r/\C x0 x1 r:=mEnt (fd:=Tryz.f16) (body:=B) (V:=W) (res:=res)<|mCal 6 h (fun _ h=>h) fun r1 _ h=>mRet 3 h
end q23_
namespace q118_
end q118_
namespace q101_
end q101_
namespace q59_
noncomputable def B:Code:=(Tryz.f30.body).getD .skip
def W:List Nat:=[0,2]
def res(r:Bool):D×List D:=(.lit (.bool r),[])
def C(x0:Int)(r:Bool):Prop:=Ret env 30 [.lit (.int .i64 x0)] (res r).1 (res r).2
theorem enter(x0:Int)(φ:Bool->Prop)(h:(if x0<1 then φ true else φ (decide (1000000<x0)))):∃r,φ r/\C x0 r:=mEnt (fd:=Tryz.f30) (body:=B) (V:=W) (res:=res)<|mAsk 5 h dT dF (fun h=>mRet 6 h) fun h=>mRet 6 h
end q59_
namespace q16_
noncomputable def B:Code:=(Tryz.f51.body).getD .skip
def W:List Nat:=[0,1,4,5,7,8,9,16]
def res(r:Int):D×List D:=(.lit (.int .i64 r),[])
def C(x0:List Int)(r:Int):Prop:=Ret env 51 [.sl (x0.map (eI .i64)),.fn 30 []] (res r).1 (res r).2
def L1(x0:List Int)(z0:Int)(φ:Int->Prop):Prop:=Pt env 51 W B [1,0,1,0] [(0,.sl (x0.map (eI .i64))),(1,.fn 30 []),(7,.lit (.int .i64 (x0.length:Int))),(8,.lit (.int .i64 z0))] (Lv env 51 Tryz.f51 2 res φ)
theorem L1_step(x0:List Int)(z0:Int)(φ:Int->Prop)(h:(if z0<(x0.length:Int)then ∃a1,lget x0 z0=some a1/\∃r3:Bool,q59_.C a1 r3/\(if r3=true then φ z0 else L1 x0 (IntKind.wrap .i64 (z0+1)) φ)else φ (-1))):L1 x0 z0 φ:=mIn<|mAsk 2 h dT dF (fun h=>mIx 11 (eI .i64) h fun a1 h2 h=>Aav 1 h (fun _ h=>h) (fun _ h=>mRet 6 h) fun _ h=>mFin 7 h) fun h=>mRet 6 h
theorem enter(x0:List Int)(φ:Int->Prop)(h:L1 x0 0 φ):∃r,φ r/\C x0 r:=mEnt (fd:=Tryz.f51) (body:=B) (V:=W) (res:=res)<|mLen 5 (eI .i64) x0<|mFin 2 h
end q16_
namespace q13_
noncomputable def B:Code:=(Tryz.f29.body).getD .skip
def W:List Nat:=[0,1,4]
def res(r:Bool):D×List D:=(.lit (.bool r),[])
def C(x0:List Int)(r:Bool):Prop:=Ret env 29 [.sl (x0.map (eI .i64)),.fn 30 []] (res r).1 (res r).2
theorem enter(x0:List Int)(φ:Bool->Prop)(h:∃r1:Int,q16_.C x0 r1/\φ (decide (0<=r1))):∃r,φ r/\C x0 r:=mEnt (fd:=Tryz.f29) (body:=B) (V:=W) (res:=res)<|mCal 6 h (fun _ h=>h) fun r1 _ h=>mRet 3 h
end q13_
namespace q102_
noncomputable def B:Code:=(Tryz.f9.body).getD .skip
def W:List Nat:=[0,1,2,3,6,7,8,9,10,11,12,13,14,15,16,17,18,20,24,34,38,50,53,57,58,59,60,68,91,94,95,96,97,105]
def res(r:List Int×Int×Int):D×List D:=(.tup [.own (r.1.map (eI .i64)),.lit (.int .i64 r.2.1),.lit (.int .i64 r.2.2)],[])
def C(x0:api_Table)(x1:List api_FD)(x2:List Int)(r:List Int×Int×Int):Prop:=Ret env 9 [.agg [.lit (.string x0.Name),.sl (x0.Attrs.map eS),.sl (x0.Rows.map Aa5)],.sl (x1.map Aa0),.sl (x2.map (eI .i64))] (res r).1 (res r).2
def L2(x0:api_Table)(x1:List api_FD)(x2:List Int)(r2:Bool×Int)(φ:List Int×Int×Int->Prop):Prop:=Pt env 9 W B [1,1,1,0,0,1,1,1,1,0] [(0,.agg [.lit (.string x0.Name),.sl (x0.Attrs.map eS),.sl (x0.Rows.map Aa5)]),(1,.sl (x1.map Aa0)),(2,.sl (x2.map (eI .i64))),(3,.box [.lit (.string x0.Name),.sl (x0.Attrs.map eS),.sl (x0.Rows.map Aa5)]),(10,.lit (.bool r2.1))] (Lv env 9 Tryz.f9 3 res φ)
def L1(x0:api_Table)(x1:List api_FD)(x2:List Int)(z0:List tractable_entry)(z1 z2:Int)(φ:List Int×Int×Int->Prop):Prop:=Pt env 9 W B [1,1,1,1,1,1,0,1,0] [(0,.agg [.lit (.string x0.Name),.sl (x0.Attrs.map eS),.sl (x0.Rows.map Aa5)]),(1,.sl (x1.map Aa0)),(2,.sl (x2.map (eI .i64))),(3,.box [.lit (.string x0.Name),.sl (x0.Attrs.map eS),.sl (x0.Rows.map Aa5)]),(12,.own (z0.map Aa3)),(13,.lit (.int .i64 z1)),(57,.sl (x0.Rows.map Aa5)),(58,.lit (.int .i64 (x0.Rows.length:Int))),(59,.lit (.int .i64 z2))] (Lv env 9 Tryz.f9 3 res φ)
def L3(x0:api_Table)(x1:List api_FD)(x2:List Int)(z0:List tractable_entry)(z1:Int)(a4:api_Row)(a6 z2:Int)(φ:List Int×Int×Int->Prop):Prop:=Pt env 9 W B [1,1,1,1,1,1,0,1,0,0,1,1,0,0,1,1,1,0] [(0,.agg [.lit (.string x0.Name),.sl (x0.Attrs.map eS),.sl (x0.Rows.map Aa5)]),(1,.sl (x1.map Aa0)),(2,.sl (x2.map (eI .i64))),(3,.box [.lit (.string x0.Name),.sl (x0.Attrs.map eS),.sl (x0.Rows.map Aa5)]),(12,.own (z0.map Aa3)),(13,.lit (.int .i64 z1)),(16,.box [.lit (.int .i64 a4.ID),.sl (a4.Values.map Aa2),.lit (.int .i64 a6)]),(57,.sl (x0.Rows.map Aa5)),(58,.lit (.int .i64 (x0.Rows.length:Int))),(59,.lit (.int .i64 z2))] (Lv env 9 Tryz.f9 3 res φ)
def L4(x0:api_Table)(z0:Int)(r9:tractable_kept×Int)(z1:List Int)(z2:Int)(φ:List Int×Int×Int->Prop):Prop:=Pt env 9 W B [1,1,1,1,1,1,1,1,1,1,0,1,0] [(0,.agg [.lit (.string x0.Name),.sl (x0.Attrs.map eS),.sl (x0.Rows.map Aa5)]),(3,.box [.lit (.string x0.Name),.sl (x0.Attrs.map eS),.sl (x0.Rows.map Aa5)]),(13,.lit (.int .i64 z0)),(17,.box [.sl (r9.1.ids.map (eI .i64)),.lit (.int .i64 r9.1.weight)]),(18,.own (z1.map (eI .i64))),(94,.sl (x0.Rows.map Aa5)),(95,.lit (.int .i64 (x0.Rows.length:Int))),(96,.lit (.int .i64 z2))] (Lv env 9 Tryz.f9 3 res φ)
def L5(x0:api_Table)(z0:Int)(r9:tractable_kept×Int)(z1:List Int)(z2:Int)(φ:List Int×Int×Int->Prop):Prop:=Pt env 9 W B [1,1,1,1,1,1,1,1,1,1,0,1,0,0,1,1,1] [(0,.agg [.lit (.string x0.Name),.sl (x0.Attrs.map eS),.sl (x0.Rows.map Aa5)]),(3,.box [.lit (.string x0.Name),.sl (x0.Attrs.map eS),.sl (x0.Rows.map Aa5)]),(13,.lit (.int .i64 z0)),(17,.box [.sl (r9.1.ids.map (eI .i64)),.lit (.int .i64 r9.1.weight)]),(18,.own (z1.map (eI .i64))),(94,.sl (x0.Rows.map Aa5)),(95,.lit (.int .i64 (x0.Rows.length:Int))),(96,.lit (.int .i64 z2))] (Lv env 9 Tryz.f9 3 res φ)
theorem L2_step(x0:api_Table)(x1:List api_FD)(x2:List Int)(r2:Bool×Int)(φ:List Int×Int×Int->Prop)(h:∃r3:Bool,q13_.C x2 r3/\(if r3=true then φ ([],0,7)else(if r2.1=true then L1 x0 x1 x2 ([]) 0 0 φ else φ ([],0,17)))):L2 x0 x1 x2 r2 φ:=mIn<|mCal 2 h (fun _ h=>h) fun r3 _ h=>mCon 2 h id fls (fun h=>mRet 5 h) fun h=>As8 5 h (fun h=>fls (Bgq h)) (fun h=>id (Bgp h)) (fun h=>mRet 5 h) fun h=>mLen 10 Aa5 x0.Rows<|mFin 2 h
theorem L1_step(x0:api_Table)(x1:List api_FD)(x2:List Int)(z0:List tractable_entry)(z1 z2:Int)(φ:List Int×Int×Int->Prop)(h:(if z2<(x0.Rows.length:Int)then ∃a4,lget x0.Rows z2=some a4/\(if 0<(x2.length:Int)then ∃a6,lget x2 z2=some a6/\L3 x0 x1 x2 z0 z1 a4 a6 z2 φ else L3 x0 x1 x2 z0 z1 a4 1 z2 φ)else ∃r8:List api_FD,q94_.C x1 r8/\∃r9:tractable_kept×Int,q100_.C z0 r8 r9/\(if r9.2=0 then L4 x0 z1 r9 ([]) 0 φ else φ ([],0,r9.2)))):L1 x0 x1 x2 z0 z1 z2 φ:=mIn<|mAsk 2 h dT dF (fun h=>mIx 5 Aa5 h fun a4 h5 h=>mLen 13 (eI .i64) x2<|mAsk 0 h dT dF (fun h=>mIx 5 (eI .i64) h fun a6 h7 h=>mFin 4 h) fun h=>mFin 3 h) fun h=>mXit 2 [(0,.agg [.lit (.string x0.Name),.sl (x0.Attrs.map eS),.sl (x0.Rows.map Aa5)]),(1,.sl (x1.map Aa0)),(3,.box [.lit (.string x0.Name),.sl (x0.Attrs.map eS),.sl (x0.Rows.map Aa5)]),(12,.sl (z0.map Aa3)),(13,.lit (.int .i64 z1))] (Aq7 (F0:=[(0,.agg [.lit (.string x0.Name),.sl (x0.Attrs.map eS),.sl (x0.Rows.map Aa5)]),(1,.sl (x1.map Aa0)),(3,.box [.lit (.string x0.Name),.sl (x0.Attrs.map eS),.sl (x0.Rows.map Aa5)]),(12,.own (z0.map Aa3)),(13,.lit (.int .i64 z1))]) (l:=z0) (e:=Aa3) (e':=Aa3) (s:=12) (by kernel_rfl) (by kernel_rfl) (by kernel_rfl) (fun _=>rfl) (by kernel_rfl) (by kernel_rfl))<|Akn 3 h (fun _ h=>h) (fun(r8:List api_FD)=>Aov (l:=r8) (e:=Aa0) (e':=Aa0) rfl (fun _=>rfl)) (hf:=(fun _=>Aah (Aam (e:=Aa0) (fun _=>rfl)) rfl)) fun r8 _ h=>
 mCal 0 h (fun _ h=>h) (hf:=(fun _=>Ae5)) fun r9 _ h=>Ac1 9 h Abv Abu (fun h=>mRet 8 h) fun h=>mLen 9 Aa5 x0.Rows<|mFin 2 h
theorem L3_step(x0:api_Table)(x1:List api_FD)(x2:List Int)(z0:List tractable_entry)(z1:Int)(a4:api_Row)(a6 z2:Int)(φ:List Int×Int×Int->Prop)(h:(z0.length+1)*40<=140737488355328/\L1 x0 x1 x2 (z0++[(⟨a4,a6⟩:tractable_entry)]) (IntKind.wrap .i64 (z1+a6)) (IntKind.wrap .i64 (z2+1)) φ):L3 x0 x1 x2 z0 z1 a4 a6 z2 φ:=mIn<|mApp 4 Aa3 z0 ([(⟨a4,a6⟩:tractable_entry)]) h fun h=>mFin 13 h
theorem L4_step(x0:api_Table)(z0:Int)(r9:tractable_kept×Int)(z1:List Int)(z2:Int)(φ:List Int×Int×Int->Prop)(h:(if z2<(x0.Rows.length:Int)then ∃a11,lget x0.Rows z2=some a11/\∃r13:Bool,q23_.C r9.1.ids a11.ID r13/\(if r13=true then L5 x0 z0 r9 z1 z2 φ else(z1.length+1)*8<=140737488355328/\L5 x0 z0 r9 (z1++[a11.ID]) z2 φ)else φ (z1,(IntKind.wrap .i64 (z0-r9.1.weight)),0))):L4 x0 z0 r9 z1 z2 φ:=mIn<|mAsk 2 h dT dF (fun h=>mIx 4 Aa5 h fun a11 h12 h=>Aav 9 h (fun _ h=>h) (fun _ h=>mFin 4 h) fun _ h=>mApp 8 (eI .i64) z1 ([a11.ID]) h fun h=>mFin 2 h) fun h=>mRet 13 h
theorem L5_step(x0:api_Table)(z0:Int)(r9:tractable_kept×Int)(z1:List Int)(z2:Int)(φ:List Int×Int×Int->Prop)(h:L4 x0 z0 r9 z1 (IntKind.wrap .i64 (z2+1)) φ):L5 x0 z0 r9 z1 z2 φ:=mIn<|mFin 4 h
theorem enter(x0:api_Table)(x1:List api_FD)(x2:List Int)(φ:List Int×Int×Int->Prop)(h:∃r1:Int,q124_.C x0 r1/\(if r1=0 then ∃r2:Bool×Int,q41_.C (x0.Attrs.length:Int) x1 r2/\(if r2.2=0 then(if 0<(x2.length:Int)then(if(x2.length:Int)=(x0.Rows.length:Int)then L2 x0 x1 x2 r2 φ else φ ([],0,6))else L2 x0 x1 x2 r2 φ)else φ ([],0,r2.2))else φ ([],0,r1))):∃r,φ r/\C x0 x1 x2 r:=mEnt (fd:=Tryz.f9) (body:=B) (V:=W) (res:=res)<|mCal 8 h (fun _ h=>h) fun r1 _ h=>Ac1 4 h Abv Abu (fun h=>mRet 8 h) fun h=>mLen 6 eS x0.Attrs<|mCal 1 h (fun _ h=>h) (hf:=(fun _=>Aah (Ach (Aa7 rfl (Aa7 rfl Aax))) rfl)) fun r2 _ h=>As8 11 h Abv Abu (fun h=>mRet 6 h) fun h=>mLen 2 (eI .i64) x2<|mAsk 0 h dT dF (fun h=>mLen 2 (eI .i64) x2<|mLen 2 Aa5 x0.Rows<|As8 4 h Abv Abu (fun h=>mRet 5 h) fun h=>mFin 0 h) fun h=>mFin 11 h
end q102_
namespace q79_
noncomputable def B:Code:=(Tryz.f11.body).getD .skip
def W:List Nat:=[0,1,2,3,6,7,8,9,10,11,15,27,39,43,57,60]
def res(r:Int):D×List D:=(.lit (.int .i64 r),[])
def C(x0:api_Table)(x1:List api_FD)(x2:List Int)(r:Int):Prop:=Ret env 11 [.agg [.lit (.string x0.Name),.sl (x0.Attrs.map eS),.sl (x0.Rows.map Aa5)],.sl (x1.map Aa0),.sl (x2.map (eI .i64))] (res r).1 (res r).2
def L2(x2:List Int)(r2:List api_Step×List api_FD×Int)(φ:Int->Prop):Prop:=Pt env 11 W B [1,1,1,1,1,0,0] [(2,.sl (x2.map (eI .i64))),(9,.own (r2.2.1.map Aa0))] (Lv env 11 Tryz.f11 3 res φ)
def L1(x2:List Int)(r2:List api_Step×List api_FD×Int)(z0:Int)(φ:Int->Prop):Prop:=Pt env 11 W B [1,1,1,1,1,0,1,0] [(2,.sl (x2.map (eI .i64))),(9,.own (r2.2.1.map Aa0)),(11,.lit (.int .i64 z0))] (Lv env 11 Tryz.f11 3 res φ)
theorem L2_step(x2:List Int)(r2:List api_Step×List api_FD×Int)(φ:Int->Prop)(h:L1 x2 r2 0 φ):L2 x2 r2 φ:=mIn<|mFin 3 h
theorem L1_step(x2:List Int)(r2:List api_Step×List api_FD×Int)(z0:Int)(φ:Int->Prop)(h:(if z0<(x2.length:Int)then ∃a3,lget x2 z0=some a3/\(if a3<1 then φ 7 else(if 1000000<a3 then φ 7 else L1 x2 r2 (IntKind.wrap .i64 (z0+1)) φ))else(if 0<(r2.2.1.length:Int)then φ 17 else φ 0))):L1 x2 r2 z0 φ:=mIn<|mLen 4 (eI .i64) x2<|mAsk 0 h dT dF (fun h=>mIx 6 (eI .i64) h fun a3 h4 h=>mAsk 1 h dT dF (fun h=>mRet 12 h) fun h=>mIxf 3 (eI .i64) h4<|mAsk 1 h dT dF (fun h=>mRet 6 h) fun h=>mFin 9 h) fun h=>mLen 5 Aa0 r2.2.1<|mAsk 0 h dT dF (fun h=>mRet 5 h) fun h=>mRet 6 h
theorem enter(x0:api_Table)(x1:List api_FD)(x2:List Int)(φ:Int->Prop)(h:∃r1:Int,q64_.C x0 r1/\(if r1=0 then ∃r2:List api_Step×List api_FD×Int,q78_.C (x0.Attrs.length:Int) x1 r2/\(if r2.2.2=0 then(if 0<(x2.length:Int)then(if(x2.length:Int)=(x0.Rows.length:Int)then L2 x2 r2 φ else φ 6)else L2 x2 r2 φ)else φ r2.2.2)else φ r1)):∃r,φ r/\C x0 x1 x2 r:=mEnt (fd:=Tryz.f11) (body:=B) (V:=W) (res:=res)<|mCal 6 h (fun _ h=>h) fun r1 _ h=>Ac1 4 h Abv Abu (fun h=>mRet 6 h) fun h=>mLen 6 eS x0.Attrs<|mCal 1 h (fun _ h=>h) (hf:=(fun _=>Aah (Ach (Aa7 (Aam (e:=Ad1) (fun _=>rfl)) (Aa7 (Aam (e:=Aa0) (fun _=>rfl)) (Aa7 rfl Aax)))) rfl)) fun r2 _ h=>Ac1 10 h Abv Abu (fun h=>mRet 6 h) fun h=>mLen 5 (eI .i64) x2<|mAsk 0 h dT dF (fun h=>mLen 2 (eI .i64) x2<|mLen 2 Aa5 x0.Rows<|Ac1 0 h Abv Abu (fun h=>mRet 6 h) fun h=>mFin 4 h) fun h=>mFin 11 h
end q79_
namespace q60_
end q60_
namespace q109_
end q109_
namespace q33_
end q33_
namespace q119_
noncomputable def B:Code:=(Tryz.f47.body).getD .skip
def W:List Nat:=[0,2,4,5,8,11,14,17,20,23,26,29,32,35]
def res(r:api_Value):D×List D:=(.agg [.lit (.int .i64 r.Kind),.lit (.int .i64 r.Num),.lit (.string r.Str)],[])
def C(x0:Int)(r:api_Value):Prop:=Ret env 47 [.lit (.int .u8 x0)] (res r).1 (res r).2
theorem enter(x0:Int)(φ:api_Value->Prop)(h:(if(zC x0 12)=0 then φ (⟨1,0,(⟨#[]⟩:ByteArray)⟩:api_Value)else(if(zC x0 12)=1 then φ (⟨1,1,(⟨#[]⟩:ByteArray)⟩:api_Value)else(if(zC x0 12)=2 then φ (⟨1,2,(⟨#[]⟩:ByteArray)⟩:api_Value)else(if(zC x0 12)=3 then φ (⟨0,0,(⟨#[]⟩:ByteArray)⟩:api_Value)else(if(zC x0 12)=4 then φ (⟨2,0,(⟨#[97]⟩:ByteArray)⟩:api_Value)else(if(zC x0 12)=5 then φ (⟨2,0,(⟨#[98]⟩:ByteArray)⟩:api_Value)else(if(zC x0 12)=6 then φ (⟨2,0,(⟨#[]⟩:ByteArray)⟩:api_Value)else(if(zC x0 12)=7 then φ (⟨3,1,(⟨#[]⟩:ByteArray)⟩:api_Value)else(if(zC x0 12)=8 then φ (⟨1,(-1),(⟨#[]⟩:ByteArray)⟩:api_Value)else(if(zC x0 12)=9 then φ (⟨2,0,(⟨#[97,98]⟩:ByteArray)⟩:api_Value)else(if(zC x0 12)=10 then φ (⟨3,2,(⟨#[]⟩:ByteArray)⟩:api_Value)else φ (⟨1,7,(⟨#[]⟩:ByteArray)⟩:api_Value))))))))))))):∃r,φ r/\C x0 r:=mEnt (fd:=Tryz.f47) (body:=B) (V:=W) (res:=res)<|mCon 11 h Aaj Aai (fun h=>mRet 4 h) fun h=>mCon 4 h Aaj Aai (fun h=>mRet 4 h) fun h=>mCon 4 h Aaj Aai (fun h=>mRet 4 h) fun h=>mCon 4 h Aaj Aai (fun h=>mRet 4 h) fun h=>mCon 4 h Aaj Aai (fun h=>mRet 4 h) fun h=>mCon 4 h Aaj Aai (fun h=>mRet 4 h) fun h=>mCon 4 h Aaj Aai (fun h=>mRet 4 h) fun h=>mCon 4 h Aaj Aai (fun h=>mRet 4 h) fun h=>mCon 4 h Aaj Aai (fun h=>mRet 4 h) fun h=>mCon 4 h Aaj Aai (fun h=>mRet 4 h) fun h=>mCon 4 h Aaj Aai (fun h=>mRet 4 h) fun h=>mRet 5 h
end q119_
namespace q103_
noncomputable def B:Code:=(Tryz.f25.body).getD .skip
def W:List Nat:=[0,1,2,4,5,6,7,8,9,20,34,44]
def res(r:api_Table):D×List D:=(.agg [.lit (.string r.Name),.own (r.Attrs.map eS),.own (r.Rows.map Acy)],[])
def C(x0:drossref03_Recipe)(x1:Int)(r:api_Table):Prop:=Ret env 25 [.agg [.lit (.int .u8 x0.Attrs),.lit (.int .u8 x0.Gap),.sl (x0.Rows.map (eSl (eI .u8)))],.lit (.int .i64 x1)] (res r).1 (res r).2
def L1(x0:drossref03_Recipe)(x1:Int)(z0:List api_Row)(z1:Int)(φ:api_Table->Prop):Prop:=Pt env 25 W B [1,1,0,1,0] [(0,.agg [.lit (.int .u8 x0.Attrs),.lit (.int .u8 x0.Gap),.sl (x0.Rows.map (eSl (eI .u8)))]),(1,.lit (.int .i64 x1)),(2,.box [.lit (.int .u8 x0.Attrs),.lit (.int .u8 x0.Gap),.sl (x0.Rows.map (eSl (eI .u8)))]),(4,.box [.lit (.string (⟨#[]⟩:ByteArray)),.own [],.own []]),(5,.box [.lit (.string (⟨#[114]⟩:ByteArray)),.own ((zB (x1.toNat-0) (zD 0 [(⟨#[97]⟩:ByteArray),(⟨#[98]⟩:ByteArray),(⟨#[99]⟩:ByteArray),(⟨#[100]⟩:ByteArray),(⟨#[101]⟩:ByteArray),(⟨#[102]⟩:ByteArray),(⟨#[103]⟩:ByteArray),(⟨#[104]⟩:ByteArray)])).map eS),.own (z0.map Acy)]),(6,.lit (.int .i64 z1))] (Lv env 25 Tryz.f25 2 res φ)
def L2(x0:drossref03_Recipe)(x1:Int)(z0:List api_Row)(z1 z2:Int)(z3:List api_Value)(z4:Int)(φ:api_Table->Prop):Prop:=Pt env 25 W B [1,1,0,1,0,0,1,0,0,1,0,1,0] [(0,.agg [.lit (.int .u8 x0.Attrs),.lit (.int .u8 x0.Gap),.sl (x0.Rows.map (eSl (eI .u8)))]),(1,.lit (.int .i64 x1)),(2,.box [.lit (.int .u8 x0.Attrs),.lit (.int .u8 x0.Gap),.sl (x0.Rows.map (eSl (eI .u8)))]),(4,.box [.lit (.string (⟨#[]⟩:ByteArray)),.own [],.own []]),(5,.box [.lit (.string (⟨#[114]⟩:ByteArray)),.own ((zB (x1.toNat-0) (zD 0 [(⟨#[97]⟩:ByteArray),(⟨#[98]⟩:ByteArray),(⟨#[99]⟩:ByteArray),(⟨#[100]⟩:ByteArray),(⟨#[101]⟩:ByteArray),(⟨#[102]⟩:ByteArray),(⟨#[103]⟩:ByteArray),(⟨#[104]⟩:ByteArray)])).map eS),.own (z0.map Acy)]),(6,.lit (.int .i64 z1)),(7,.box [.lit (.int .i64 z2),.own (z3.map Aa2)]),(8,.lit (.int .i64 z4))] (Lv env 25 Tryz.f25 2 res φ)
def L3(x0:drossref03_Recipe)(x1:Int)(z0:List api_Row)(z1 z2:Int)(z3:List api_Value)(z4 a7:Int)(φ:api_Table->Prop):Prop:=Pt env 25 W B [1,1,0,1,0,0,1,0,0,1,0,1,0,0,1,0,0,1,1] [(0,.agg [.lit (.int .u8 x0.Attrs),.lit (.int .u8 x0.Gap),.sl (x0.Rows.map (eSl (eI .u8)))]),(1,.lit (.int .i64 x1)),(2,.box [.lit (.int .u8 x0.Attrs),.lit (.int .u8 x0.Gap),.sl (x0.Rows.map (eSl (eI .u8)))]),(4,.box [.lit (.string (⟨#[]⟩:ByteArray)),.own [],.own []]),(5,.box [.lit (.string (⟨#[114]⟩:ByteArray)),.own ((zB (x1.toNat-0) (zD 0 [(⟨#[97]⟩:ByteArray),(⟨#[98]⟩:ByteArray),(⟨#[99]⟩:ByteArray),(⟨#[100]⟩:ByteArray),(⟨#[101]⟩:ByteArray),(⟨#[102]⟩:ByteArray),(⟨#[103]⟩:ByteArray),(⟨#[104]⟩:ByteArray)])).map eS),.own (z0.map Acy)]),(6,.lit (.int .i64 z1)),(7,.box [.lit (.int .i64 z2),.own (z3.map Aa2)]),(8,.lit (.int .i64 z4)),(9,.lit (.int .u8 a7))] (Lv env 25 Tryz.f25 2 res φ)
theorem L1_step(x0:drossref03_Recipe)(x1:Int)(z0:List api_Row)(z1:Int)(φ:api_Table->Prop)(h:(if z1<(x0.Rows.length:Int)then L2 x0 x1 z0 z1 (IntKind.wrap .i64 (1+(IntKind.wrap .i64 (z1*(IntKind.wrap .i64 (1+(IntKind.wrap .i64 (zC x0.Gap 3)))))))) ([]) 0 φ else φ (⟨(⟨#[114]⟩:ByteArray),(zB (x1.toNat-0) (zD 0 [(⟨#[97]⟩:ByteArray),(⟨#[98]⟩:ByteArray),(⟨#[99]⟩:ByteArray),(⟨#[100]⟩:ByteArray),(⟨#[101]⟩:ByteArray),(⟨#[102]⟩:ByteArray),(⟨#[103]⟩:ByteArray),(⟨#[104]⟩:ByteArray)])),z0⟩:api_Table))):L1 x0 x1 z0 z1 φ:=mIn<|mLen 5 (eSl (eI .u8)) x0.Rows<|mAsk 0 h dT dF (fun h=>mFin 19 h) fun h=>mRet 7 h
theorem L2_step(x0:drossref03_Recipe)(x1:Int)(z0:List api_Row)(z1 z2:Int)(z3:List api_Value)(z4:Int)(φ:api_Table->Prop)(h:(if z4<x1 then ∃a5,lget x0.Rows z1=some a5/\(if z4<(a5.length:Int)then ∃a7,lget a5 z4=some a7/\L3 x0 x1 z0 z1 z2 z3 z4 a7 φ else L3 x0 x1 z0 z1 z2 z3 z4 0 φ)else(z0.length+1)*32<=140737488355328/\L1 x0 x1 (z0++[(⟨z2,z3⟩:api_Row)]) (IntKind.wrap .i64 (z1+1)) φ)):L2 x0 x1 z0 z1 z2 z3 z4 φ:=mIn<|mAsk 4 h dT dF (fun h=>mIx 11 (eSl (eI .u8)) h fun a5 h6 h=>mLen 1 (eI .u8) a5<|mAsk 0 h dT dF (fun h=>mIxf 6 (eSl (eI .u8)) h6<|mIx 2 (eI .u8) h fun a7 h8 h=>mFin 3 h) fun h=>mFin 3 h) fun h=>mApp 8 Acy z0 ([(⟨z2,z3⟩:api_Row)]) h fun h=>mFin 8 h
theorem L3_step(x0:drossref03_Recipe)(x1:Int)(z0:List api_Row)(z1 z2:Int)(z3:List api_Value)(z4 a7:Int)(φ:api_Table->Prop)(h:∃r10:api_Value,q119_.C a7 r10/\(z3.length+1)*32<=140737488355328/\L2 x0 x1 z0 z1 z2 (z3++[r10]) (IntKind.wrap .i64 (z4+1)) φ):L3 x0 x1 z0 z1 z2 z3 z4 a7 φ:=mIn<|mLo 4 h (fun _ h=>h) (hf:=(fun _=>Axl (Ae7 (Aa7 rfl (Aa7 rfl (Aa7 rfl Aax)))))) fun r10 _ h=>mApp 1 Aa2 z3 ([r10]) h fun h=>mFin 8 h
theorem enter(x0:drossref03_Recipe)(x1:Int)(φ:api_Table->Prop)(h:0<=x1/\(0<=x1.toNat/\x1.toNat<=([(⟨#[97]⟩:ByteArray),(⟨#[98]⟩:ByteArray),(⟨#[99]⟩:ByteArray),(⟨#[100]⟩:ByteArray),(⟨#[101]⟩:ByteArray),(⟨#[102]⟩:ByteArray),(⟨#[103]⟩:ByteArray),(⟨#[104]⟩:ByteArray)]).length)/\0+(x1.toNat-0)<=([(⟨#[97]⟩:ByteArray),(⟨#[98]⟩:ByteArray),(⟨#[99]⟩:ByteArray),(⟨#[100]⟩:ByteArray),(⟨#[101]⟩:ByteArray),(⟨#[102]⟩:ByteArray),(⟨#[103]⟩:ByteArray),(⟨#[104]⟩:ByteArray)]).length/\(0+(zB (x1.toNat-0) (zD 0 [(⟨#[97]⟩:ByteArray),(⟨#[98]⟩:ByteArray),(⟨#[99]⟩:ByteArray),(⟨#[100]⟩:ByteArray),(⟨#[101]⟩:ByteArray),(⟨#[102]⟩:ByteArray),(⟨#[103]⟩:ByteArray),(⟨#[104]⟩:ByteArray)])).length)*16<=140737488355328/\L1 x0 x1 ([]) 0 φ):∃r,φ r/\C x0 x1 r:=mEnt (fd:=Tryz.f25) (body:=B) (V:=W) (res:=res)<|h.elim fun h1 h=>h.elim fun h2 h=>mVl 8 (Ak8 (s:=11) (ps:=[]) (t:=29) (x:=(.tmp 11)) (lo:=none) (hi:=(some (.tmp 12))) (lo':=none) (hi':=some x1.toNat) (e:=eS) (l:=[(⟨#[97]⟩:ByteArray),(⟨#[98]⟩:ByteArray),(⟨#[99]⟩:ByteArray),(⟨#[100]⟩:ByteArray),(⟨#[101]⟩:ByteArray),(⟨#[102]⟩:ByteArray),(⟨#[103]⟩:ByteArray),(⟨#[104]⟩:ByteArray)]) (et:=9) (k:=1) (by kernel_rfl) (by kernel_rfl) (Afx (by kernel_rfl)) Ae9 (Aea (i:=x1) (q:=.i64) (by kernel_rfl) h1) (by kernel_rfl) (by kernel_rfl) (fun _=>rfl) (by kernel_rfl) h2.1 h2.2)<|h.elim fun h3 h=>h.elim fun h4 h=>mOp 0 (app3 (x:=(.tmp 10)) (y:=(.tmp 13)) (t:=29) (u:=29) (et:=9) (z:=.lit (.string (⟨#[]⟩:ByteArray))) (k:=1) (c:=16) (e:=eS) (l:=[]) (m:=(zB (x1.toNat-0) (zD 0 [(⟨#[97]⟩:ByteArray),(⟨#[98]⟩:ByteArray),(⟨#[99]⟩:ByteArray),(⟨#[100]⟩:ByteArray),(⟨#[101]⟩:ByteArray),(⟨#[102]⟩:ByteArray),(⟨#[103]⟩:ByteArray),(⟨#[104]⟩:ByteArray)]))) (by kernel_rfl) (by kernel_rfl) (by kernel_rfl) (by kernel_rfl) (by kernel_rfl) (by kernel_rfl) (Axt (s:=11) (ps:=[]) (off:=0) (len:=(x1.toNat-0)) (by kernel_rfl) (Amy (s:=11) (ps:=[]) (l:=[(⟨#[97]⟩:ByteArray),(⟨#[98]⟩:ByteArray),(⟨#[99]⟩:ByteArray),(⟨#[100]⟩:ByteArray),(⟨#[101]⟩:ByteArray),(⟨#[102]⟩:ByteArray),(⟨#[103]⟩:ByteArray),(⟨#[104]⟩:ByteArray)]) (e:=eS) (by kernel_rfl) h3) (fun _=>rfl)) (by kernel_rfl) (by kernel_rfl) (by kernel_rfl) (by kernel_rfl) (fun _=>rfl) h4) <|
 mFin 7 h
end q103_
namespace q80_
noncomputable def B:Code:=(Tryz.f21.body).getD .skip
def W:List Nat:=[0,1,2,4,5,10]
def res(r:api_Table×Bool):D×List D:=(.tup [.agg [.lit (.string r.1.Name),.own (r.1.Attrs.map eS),.own (r.1.Rows.map Acy)],.lit (.bool r.2)],[])
def C(x0:drossref03_Recipe)(x1:Int)(r:api_Table×Bool):Prop:=Ret env 21 [.agg [.lit (.int .u8 x0.Attrs),.lit (.int .u8 x0.Gap),.sl (x0.Rows.map (eSl (eI .u8)))],.lit (.int .i64 x1)] (res r).1 (res r).2
theorem enter(x0:drossref03_Recipe)(x1:Int)(φ:api_Table×Bool->Prop)(h:(if x1<(x0.Rows.length:Int)then φ ((⟨(⟨#[]⟩:ByteArray),[],[]⟩:api_Table),false)else ∃r1:api_Table,q103_.C x0 (IntKind.wrap .i64 (zC x0.Attrs 6)) r1/\φ (r1,true))):∃r,φ r/\C x0 x1 r:=mEnt (fd:=Tryz.f21) (body:=B) (V:=W) (res:=res)<|mLen 8 (eSl (eI .u8)) x0.Rows<|mAsk 1 h dT dF (fun h=>mRet 7 h) fun h=>mCal 9 h (fun _ h=>h) (hf:=(fun _=>Aah (Ae7 (Aa7 rfl (Aa7 (Aam (e:=eS) (fun _=>rfl)) (Aa7 (Aam (e:=Acy) (fun _=>(Aa7 rfl (Aa7 (Aam (e:=Aa2) (fun _=>rfl)) Aax)))) Aax)))) rfl)) fun r1 _ h=>mRet 3 h
end q80_
namespace q104_
noncomputable def B:Code:=(Tryz.f22.body).getD .skip
def W:List Nat:=[0,1,4,5,6,7,13]
def res(r:List api_FD):D×List D:=(.own (r.map Aa0),[])
def C(x0:Int)(x1:List drossref09_Dep)(r:List api_FD):Prop:=Ret env 22 [.lit (.int .i64 x0),.sl (x1.map Aad)] (res r).1 (res r).2
def L1(x1:List drossref09_Dep)(r1:Int)(z0:List api_FD)(z1:Int)(φ:List api_FD->Prop):Prop:=Pt env 22 W B [1,1,1,0,1,0] [(1,.sl (x1.map Aad)),(5,.lit (.int .u32 r1)),(6,.own (z0.map Aa0)),(7,.lit (.int .i64 z1))] (Lv env 22 Tryz.f22 2 res φ)
theorem L1_step(x1:List drossref09_Dep)(r1:Int)(z0:List api_FD)(z1:Int)(φ:List api_FD->Prop)(h:(if z1<(x1.length:Int)then ∃a2,lget x1 z1=some a2/\(z0.length+1)*8<=140737488355328/\L1 x1 r1 (z0++[(⟨(bAnd .u32 (IntKind.wrap .u32 a2.L) r1),(bAnd .u32 (IntKind.wrap .u32 a2.R) r1)⟩:api_FD)]) (IntKind.wrap .i64 (z1+1)) φ else φ z0)):L1 x1 r1 z0 z1 φ:=mIn<|mLen 4 Aad x1<|mAsk 0 h dT dF (fun h=>mIx 7 Aad h fun a2 h3 h=>mIxf 7 Aad h3<|mApp 7 Aa0 z0 ([(⟨(bAnd .u32 (IntKind.wrap .u32 a2.L) r1),(bAnd .u32 (IntKind.wrap .u32 a2.R) r1)⟩:api_FD)]) h fun h=>mFin 7 h) fun h=>mRet 7 h
theorem enter(x0:Int)(x1:List drossref09_Dep)(φ:List api_FD->Prop)(h:∃r1:Int,q83_.C x0 r1/\L1 x1 r1 ([]) 0 φ):∃r,φ r/\C x0 x1 r:=mEnt (fd:=Tryz.f22) (body:=B) (V:=W) (res:=res)<|mCal 5 h (fun _ h=>h) fun r1 _ h=>mFin 8 h
end q104_
namespace q32_
noncomputable def B:Code:=(Tryz.f7.body).getD .skip
def W:List Nat:=[0,1,2,4,5,6,7,8,9,10,11,12,28,29,30,36,53]
def res(r:api_Table×List api_FD×List Int×Bool):D×List D:=(.tup [.agg [.lit (.string r.1.Name),.sl (r.1.Attrs.map eS),.sl (r.1.Rows.map Aa5)],.own (r.2.1.map Aa0),.own (r.2.2.1.map (eI .i64)),.lit (.bool r.2.2.2)],[])
def C(x0:drosslaw42_Case)(x1:Int)(r:api_Table×List api_FD×List Int×Bool):Prop:=Ret env 7 [.agg [.lit (.int .u8 x0.Table.Attrs),.lit (.int .u8 x0.Table.Gap),.sl (x0.Table.Rows.map (eSl (eI .u8))),.sl (x0.Deps.map Aad),.sl (x0.Weights.map (eI .u8))],.lit (.int .i64 x1)] (res r).1 (res r).2
def L1(x0:drosslaw42_Case)(r1:api_Table×Bool)(r2:List api_FD)(z0:List Int)(z1:Int)(φ:api_Table×List api_FD×List Int×Bool->Prop):Prop:=Pt env 7 W B [1,1,1,1,0,1,0] [(0,.agg [.lit (.int .u8 x0.Table.Attrs),.lit (.int .u8 x0.Table.Gap),.sl (x0.Table.Rows.map (eSl (eI .u8))),.sl (x0.Deps.map Aad),.sl (x0.Weights.map (eI .u8))]),(2,.box [.lit (.int .u8 x0.Table.Attrs),.lit (.int .u8 x0.Table.Gap),.sl (x0.Table.Rows.map (eSl (eI .u8))),.sl (x0.Deps.map Aad),.sl (x0.Weights.map (eI .u8))]),(4,.box [.lit (.string (⟨#[]⟩:ByteArray)),.own [],.own []]),(8,.box [.lit (.string r1.1.Name),.sl (r1.1.Attrs.map eS),.sl (r1.1.Rows.map Aa5)]),(9,.lit (.bool r1.2)),(10,.own (r2.map Aa0)),(11,.own (z0.map (eI .i64))),(28,.lit (.int .i64 (r1.1.Rows.length:Int))),(29,.lit (.int .i64 z1))] (Lv env 7 Tryz.f7 2 res φ)
def L2(x0:drosslaw42_Case)(r1:api_Table×Bool)(r2:List api_FD)(z0:List Int)(z1:Int)(φ:api_Table×List api_FD×List Int×Bool->Prop):Prop:=Pt env 7 W B [1,1,1,1,0,1,0,0,1,1,1] [(0,.agg [.lit (.int .u8 x0.Table.Attrs),.lit (.int .u8 x0.Table.Gap),.sl (x0.Table.Rows.map (eSl (eI .u8))),.sl (x0.Deps.map Aad),.sl (x0.Weights.map (eI .u8))]),(2,.box [.lit (.int .u8 x0.Table.Attrs),.lit (.int .u8 x0.Table.Gap),.sl (x0.Table.Rows.map (eSl (eI .u8))),.sl (x0.Deps.map Aad),.sl (x0.Weights.map (eI .u8))]),(4,.box [.lit (.string (⟨#[]⟩:ByteArray)),.own [],.own []]),(8,.box [.lit (.string r1.1.Name),.sl (r1.1.Attrs.map eS),.sl (r1.1.Rows.map Aa5)]),(9,.lit (.bool r1.2)),(10,.own (r2.map Aa0)),(11,.own (z0.map (eI .i64))),(28,.lit (.int .i64 (r1.1.Rows.length:Int))),(29,.lit (.int .i64 z1))] (Lv env 7 Tryz.f7 2 res φ)
def L3(x0:drosslaw42_Case)(r1:api_Table×Bool)(r2:List api_FD)(z0:List Int)(φ:api_Table×List api_FD×List Int×Bool->Prop):Prop:=Pt env 7 W B [1,1,1,1,1,1,0] [(0,.agg [.lit (.int .u8 x0.Table.Attrs),.lit (.int .u8 x0.Table.Gap),.sl (x0.Table.Rows.map (eSl (eI .u8))),.sl (x0.Deps.map Aad),.sl (x0.Weights.map (eI .u8))]),(2,.box [.lit (.int .u8 x0.Table.Attrs),.lit (.int .u8 x0.Table.Gap),.sl (x0.Table.Rows.map (eSl (eI .u8))),.sl (x0.Deps.map Aad),.sl (x0.Weights.map (eI .u8))]),(4,.box [.lit (.string (⟨#[]⟩:ByteArray)),.own [],.own []]),(8,.box [.lit (.string r1.1.Name),.sl (r1.1.Attrs.map eS),.sl (r1.1.Rows.map Aa5)]),(9,.lit (.bool r1.2)),(10,.own (r2.map Aa0)),(11,.own (z0.map (eI .i64)))] (Lv env 7 Tryz.f7 2 res φ)
theorem L1_step(x0:drosslaw42_Case)(r1:api_Table×Bool)(r2:List api_FD)(z0:List Int)(z1:Int)(φ:api_Table×List api_FD×List Int×Bool->Prop)(h:(if z1<(r1.1.Rows.length:Int)then(if z1<(x0.Weights.length:Int)then ∃a33,lget x0.Weights z1=some a33/\(z0.length+1)*8<=140737488355328/\L2 x0 r1 r2 (z0++[(IntKind.wrap .i64 (1+(IntKind.wrap .i64 a33)))]) z1 φ else L2 x0 r1 r2 z0 z1 φ)else(if(z0.length:Int)<(r1.1.Rows.length:Int)then L3 x0 r1 r2 ([]) φ else L3 x0 r1 r2 z0 φ))):L1 x0 r1 r2 z0 z1 φ:=mIn<|mAsk 2 h dT dF (fun h=>mLen 11 (eI .u8) x0.Weights<|mAsk 0 h dT dF (fun h=>mIx 7 (eI .u8) h fun a33 h34 h=>mApp 4 (eI .i64) z0 ([(IntKind.wrap .i64 (1+(IntKind.wrap .i64 a33)))]) h fun h=>mFin 2 h) fun h=>mFin 3 h) fun h=>mLen 5 (eI .i64) z0<|mLen 2 Aa5 r1.1.Rows<|mAsk 0 h dT dF (fun h=>mFin 5 h) fun h=>mFin 3 h
theorem L2_step(x0:drosslaw42_Case)(r1:api_Table×Bool)(r2:List api_FD)(z0:List Int)(z1:Int)(φ:api_Table×List api_FD×List Int×Bool->Prop)(h:L1 x0 r1 r2 z0 (IntKind.wrap .i64 (z1+1)) φ):L2 x0 r1 r2 z0 z1 φ:=mIn<|mFin 4 h
theorem L3_step(x0:drosslaw42_Case)(r1:api_Table×Bool)(r2:List api_FD)(z0:List Int)(φ:api_Table×List api_FD×List Int×Bool->Prop)(h:(if r1.2=true then φ (r1.1,r2,z0,(decide ((x0.Deps.length:Int)<=6)))else φ (r1.1,r2,z0,false))):L3 x0 r1 r2 z0 φ:=mIn<|mAsk 4 h id fls (fun h=>mLen 3 Aad x0.Deps<|mRet 7 h) fun h=>mRet 11 h
theorem enter(x0:drosslaw42_Case)(x1:Int)(φ:api_Table×List api_FD×List Int×Bool->Prop)(h:∃r31:api_Table×Bool,q80_.C x0.Table x1 r31/\∃r32:List api_FD,q104_.C (r31.1.Attrs.length:Int) x0.Deps r32/\L1 x0 r31 r32 ([]) 0 φ):∃r,φ r/\C x0 x1 r:=mEnt (fd:=Tryz.f7) (body:=B) (V:=W) (res:=res)<|Akn 11 h (fun _ h=>h) (fun(r31:api_Table×Bool)=>Aqf rfl (Ac5 (Amc (Ac5 rfl (Ac5 (Ac9 (e:=eS) (e':=eS) (fun _=>rfl) r31.1.Attrs) (Ac5 (Ac9 (e:=Acy) (e':=Aa5) (fun x=>(Ac5 rfl (Ac5 (Ac9 (e:=Aa2) (e':=Aa2) (fun _=>rfl) x.Values) Aji))) r31.1.Rows) Aji)))) (Ac5 rfl Aji))) (hf:=(fun _=>Aah (Ach (Aa7 (Ae7 (Aa7 rfl (Aa7 (Aam (e:=eS) (fun _=>rfl)) (Aa7 (Aam (e:=Acy) (fun _=>(Aa7 rfl (Aa7 (Aam (e:=Aa2) (fun _=>rfl)) Aax)))) Aax)))) (Aa7 rfl Aax))) rfl)) fun r31 _ h=>mLen 10 eS r31.1.Attrs<|mCal 2 h (fun _ h=>h) (hf:=(fun _=>Aah (Aam (e:=Aa0) (fun _=>rfl)) rfl)) fun r32 _ h=>mLen 8 Aa5 r31.1.Rows<|mFin 2 h
end q32_
namespace q34_
end q34_
namespace q81_
end q81_
namespace q82_
def res(r:Bool):D×List D:=(.lit (.bool r),[])
def C  (r:Bool):Prop:=Ret env 8 [] (res r).1 (res r).2
end q82_
end Go.Own
namespace Go.Own
set_option maxRecDepth 1000000
theorem q82_.run:Abw env 400 8 []=some (.lit (.bool true),[]):=by kernel_rfl
theorem q82_.spec:q82_.C true:=Ret.of q82_.run
end Go.Own
namespace Go.Own
open Go.Proofs D
set_option maxRecDepth 100000
set_option maxHeartbeats 4000000
namespace q35_
noncomputable def B:Code:=(Tryz.f15.body).getD .skip
def W:List Nat:=[0,1,2,3,4]
def res(r:Bool):D×List D:=(.lit (.bool r),[])
def C(x0 x1:api_Row)(r:Bool):Prop:=Ret env 15 [.agg [.lit (.int .i64 x0.ID),.sl (x0.Values.map Aa2)],.agg [.lit (.int .i64 x1.ID),.sl (x1.Values.map Aa2)]] (res r).1 (res r).2
theorem enter(x0 x1:api_Row)(φ:Bool->Prop)(h:(if x0.ID=x1.ID then ∃r1:Bool,q88_.C x0.Values x1.Values r1/\φ r1 else φ false)):∃r,φ r/\C x0 x1 r:=mEnt (fd:=Tryz.f15) (body:=B) (V:=W) (res:=res)<|mAsk 10 h Aaj Aai (fun h=>mCal 5 h (fun _ h=>h) fun r1 _ h=>mRet 3 h) fun h=>mRet 9 h
end q35_
namespace q26_
noncomputable def B:Code:=(Tryz.f18.body).getD .skip
def W:List Nat:=[0,1,2,3,4]
def res(r:Bool):D×List D:=(.lit (.bool r),[])
def C(x0:api_FD)(k1_0:Int)(k1_1:List api_Value)(k2_0:Int)(k2_1:List api_Value)(r:Bool):Prop:=Ret env 18 [.agg [.lit (.int .u32 x0.Lhs),.lit (.int .u32 x0.Rhs)],.ref [.lit (.int .i64 k1_0),.sl (k1_1.map Aa2)],.ref [.lit (.int .i64 k2_0),.sl (k2_1.map Aa2)]] (res r).1 (res r).2
theorem enter(x0:api_FD)(k1_0:Int)(k1_1:List api_Value)(k2_0:Int)(k2_1:List api_Value)(φ:Bool->Prop)(h:∃r1:Bool,q66_.C (⟨k1_0,k1_1⟩:api_Row) (⟨k2_0,k2_1⟩:api_Row) x0.Lhs r1/\φ r1):∃r,φ r/\C x0 k1_0 k1_1 k2_0 k2_1 r:=mEnt (fd:=Tryz.f18) (body:=B) (V:=W) (res:=res)<|mCal 9 h (fun _ h=>h) fun r1 _ h=>mRet 2 h
end q26_
namespace q3_
noncomputable def B:Code:=(Tryz.f41.body).getD .skip
def W:List Nat:=[0,1,4,5,7,8,9,16]
def res(r:Int):D×List D:=(.lit (.int .i64 r),[])
def C(x0:List api_FD)(k1_0:Int)(k1_1:List api_Value)(k1_2:Int)(k1_3:List api_Value)(r:Int):Prop:=Ret env 41 [.sl (x0.map Aa0),.fn 18 [.ref [.lit (.int .i64 k1_0),.sl (k1_1.map Aa2)],.ref [.lit (.int .i64 k1_2),.sl (k1_3.map Aa2)]]] (res r).1 (res r).2
def L1(x0:List api_FD)(k1_0:Int)(k1_1:List api_Value)(k1_2:Int)(k1_3:List api_Value)(z0:Int)(φ:Int->Prop):Prop:=Pt env 41 W B [1,0,1,0] [(0,.sl (x0.map Aa0)),(1,.fn 18 [.ref [.lit (.int .i64 k1_0),.sl (k1_1.map Aa2)],.ref [.lit (.int .i64 k1_2),.sl (k1_3.map Aa2)]]),(7,.lit (.int .i64 (x0.length:Int))),(8,.lit (.int .i64 z0))] (Lv env 41 Tryz.f41 2 res φ)
theorem L1_step(x0:List api_FD)(k1_0:Int)(k1_1:List api_Value)(k1_2:Int)(k1_3:List api_Value)(z0:Int)(φ:Int->Prop)(h:(if z0<(x0.length:Int)then ∃a1,lget x0 z0=some a1/\∃r3:Bool,q26_.C a1 k1_0 k1_1 k1_2 k1_3 r3/\(if r3=true then φ z0 else L1 x0 k1_0 k1_1 k1_2 k1_3 (IntKind.wrap .i64 (z0+1)) φ)else φ (-1))):L1 x0 k1_0 k1_1 k1_2 k1_3 z0 φ:=mIn<|mAsk 2 h dT dF (fun h=>mIx 11 Aa0 h fun a1 h2 h=>Aav 1 h (fun _ h=>h) (fun _ h=>mRet 6 h) fun _ h=>mFin 7 h) fun h=>mRet 6 h
theorem enter(x0:List api_FD)(k1_0:Int)(k1_1:List api_Value)(k1_2:Int)(k1_3:List api_Value)(φ:Int->Prop)(h:L1 x0 k1_0 k1_1 k1_2 k1_3 0 φ):∃r,φ r/\C x0 k1_0 k1_1 k1_2 k1_3 r:=mEnt (fd:=Tryz.f41) (body:=B) (V:=W) (res:=res)<|mLen 5 Aa0 x0<|mFin 2 h
end q3_
namespace q1_
noncomputable def B:Code:=(Tryz.f17.body).getD .skip
def W:List Nat:=[0,1,4]
def res(r:Bool):D×List D:=(.lit (.bool r),[])
def C(x0:List api_FD)(k1_0:Int)(k1_1:List api_Value)(k1_2:Int)(k1_3:List api_Value)(r:Bool):Prop:=Ret env 17 [.sl (x0.map Aa0),.fn 18 [.ref [.lit (.int .i64 k1_0),.sl (k1_1.map Aa2)],.ref [.lit (.int .i64 k1_2),.sl (k1_3.map Aa2)]]] (res r).1 (res r).2
theorem enter(x0:List api_FD)(k1_0:Int)(k1_1:List api_Value)(k1_2:Int)(k1_3:List api_Value)(φ:Bool->Prop)(h:∃r1:Int,q3_.C x0 k1_0 k1_1 k1_2 k1_3 r1/\φ (decide (0<=r1))):∃r,φ r/\C x0 k1_0 k1_1 k1_2 k1_3 r:=mEnt (fd:=Tryz.f17) (body:=B) (V:=W) (res:=res)<|mCal 6 h (fun _ h=>h) fun r1 _ h=>mRet 3 h
end q1_
namespace drosslaw42_TractableEqual
noncomputable def B:Code:=(Tryz.f5.body).getD .skip
def W:List Nat:=[0,1,2,3,4,5,6,7,8,9,10,11,12,13,14,34,45,47,48,49,50,55,56,57,58,79,99]
def res(r:Bool):D×List D:=(.lit (.bool r),[])
def C(x0:drosslaw42_Case)(r:Bool):Prop:=Ret env 5 [.agg [.lit (.int .u8 x0.Table.Attrs),.lit (.int .u8 x0.Table.Gap),.sl (x0.Table.Rows.map (eSl (eI .u8))),.sl (x0.Deps.map Aad),.sl (x0.Weights.map (eI .u8))]] (res r).1 (res r).2
def L2  (φ:Bool->Prop):Prop:=Pt env 5 W B [1,1,0,1,0,0] [] (Lv env 5 Tryz.f5 1 res φ)
def L1(r1:api_Table×List api_FD×List Int×Bool)(r5:List Int×Int×Int)(z0:Int)(φ:Bool->Prop):Prop:=Pt env 5 W B [1,1,1,1,1,0,1,0] [(3,.box [.lit (.string r1.1.Name),.sl (r1.1.Attrs.map eS),.sl (r1.1.Rows.map Aa5)]),(4,.sl (r1.2.1.map Aa0)),(7,.sl (r5.1.map (eI .i64))),(47,.sl (r1.1.Rows.map Aa5)),(48,.lit (.int .i64 (r1.1.Rows.length:Int))),(49,.lit (.int .i64 z0))] (Lv env 5 Tryz.f5 1 res φ)
def L3(r1:api_Table×List api_FD×List Int×Bool)(r5:List Int×Int×Int)(z0:Int)(a11:api_Row)(z1:Bool)(z2 z3:Int)(φ:Bool->Prop):Prop:=Pt env 5 W B [1,1,1,1,1,0,1,0,0,1,1,0,0,1,1,0,1,0] [(3,.box [.lit (.string r1.1.Name),.sl (r1.1.Attrs.map eS),.sl (r1.1.Rows.map Aa5)]),(4,.sl (r1.2.1.map Aa0)),(7,.sl (r5.1.map (eI .i64))),(10,.lit (.int .i64 z0)),(11,.box [.lit (.int .i64 a11.ID),.sl (a11.Values.map Aa2)]),(12,.lit (.bool z1)),(47,.sl (r1.1.Rows.map Aa5)),(48,.lit (.int .i64 (r1.1.Rows.length:Int))),(49,.lit (.int .i64 z2)),(55,.sl (r1.1.Rows.map Aa5)),(56,.lit (.int .i64 (r1.1.Rows.length:Int))),(57,.lit (.int .i64 z3))] (Lv env 5 Tryz.f5 1 res φ)
def L5(r1:api_Table×List api_FD×List Int×Bool)(r5:List Int×Int×Int)(z0:Int)(a11:api_Row)(z1:Bool)(z2:Int)(a64:api_Row)(z3:Int)(φ:Bool->Prop):Prop:=Pt env 5 W B [1,1,1,1,1,0,1,0,0,1,1,0,0,1,1,0,1,0,0,1,1,0,0,1,1] [(3,.box [.lit (.string r1.1.Name),.sl (r1.1.Attrs.map eS),.sl (r1.1.Rows.map Aa5)]),(4,.sl (r1.2.1.map Aa0)),(7,.sl (r5.1.map (eI .i64))),(10,.lit (.int .i64 z0)),(11,.box [.lit (.int .i64 a11.ID),.sl (a11.Values.map Aa2)]),(12,.lit (.bool z1)),(13,.lit (.int .i64 z2)),(14,.box [.lit (.int .i64 a64.ID),.sl (a64.Values.map Aa2)]),(47,.sl (r1.1.Rows.map Aa5)),(48,.lit (.int .i64 (r1.1.Rows.length:Int))),(49,.lit (.int .i64 z3)),(55,.sl (r1.1.Rows.map Aa5)),(56,.lit (.int .i64 (r1.1.Rows.length:Int))),(57,.lit (.int .i64 z2))] (Lv env 5 Tryz.f5 1 res φ)
def L6(r1:api_Table×List api_FD×List Int×Bool)(r5:List Int×Int×Int)(z0:Int)(φ:Bool->Prop):Prop:=Pt env 5 W B [1,1,1,1,1,0,1,0,0,1,1,1] [(3,.box [.lit (.string r1.1.Name),.sl (r1.1.Attrs.map eS),.sl (r1.1.Rows.map Aa5)]),(4,.sl (r1.2.1.map Aa0)),(7,.sl (r5.1.map (eI .i64))),(47,.sl (r1.1.Rows.map Aa5)),(48,.lit (.int .i64 (r1.1.Rows.length:Int))),(49,.lit (.int .i64 z0))] (Lv env 5 Tryz.f5 1 res φ)
def L4(r1:api_Table×List api_FD×List Int×Bool)(r5:List Int×Int×Int)(z0:Int)(a11:api_Row)(z1:Bool)(z2 z3:Int)(φ:Bool->Prop):Prop:=Pt env 5 W B [1,1,1,1,1,0,1,0,0,1,1,0,0,1,1,0,1,0,0,1,1,1] [(3,.box [.lit (.string r1.1.Name),.sl (r1.1.Attrs.map eS),.sl (r1.1.Rows.map Aa5)]),(4,.sl (r1.2.1.map Aa0)),(7,.sl (r5.1.map (eI .i64))),(10,.lit (.int .i64 z0)),(11,.box [.lit (.int .i64 a11.ID),.sl (a11.Values.map Aa2)]),(12,.lit (.bool z1)),(47,.sl (r1.1.Rows.map Aa5)),(48,.lit (.int .i64 (r1.1.Rows.length:Int))),(49,.lit (.int .i64 z2)),(55,.sl (r1.1.Rows.map Aa5)),(56,.lit (.int .i64 (r1.1.Rows.length:Int))),(57,.lit (.int .i64 z3))] (Lv env 5 Tryz.f5 1 res φ)
theorem L2_step  (φ:Bool->Prop) (h:∃r177:Bool,q82_.C  r177/\φ r177):L2  φ:=mIn<|mCal 1 h (fun _ h=>h) fun r177 _ h=>mRet 2 h
theorem L1_step(r1:api_Table×List api_FD×List Int×Bool)(r5:List Int×Int×Int)(z0:Int)(φ:Bool->Prop)(h:(if z0<(r1.1.Rows.length:Int)then ∃a178,lget r1.1.Rows z0=some a178/\L3 r1 r5 z0 a178 true z0 0 φ else φ true)):L1 r1 r5 z0 φ:=mIn<|mAsk 2 h dT dF (fun h=>mIx 5 Aa5 h fun a178 h179 h=>mLen 11 Aa5 r1.1.Rows<|mFin 2 h) fun h=>mRet 6 h
theorem L3_step(r1:api_Table×List api_FD×List Int×Bool)(r5:List Int×Int×Int)(z0:Int)(a11:api_Row)(z1:Bool)(z2 z3:Int)(φ:Bool->Prop)(h:(if z3<(r1.1.Rows.length:Int)then ∃a180,lget r1.1.Rows z3=some a180/\∃r182:Bool,q35_.C (⟨0,a11.Values⟩:api_Row) (⟨0,a180.Values⟩:api_Row) r182/\(if r182=true then ∃r183:Bool,q23_.C r5.1 a11.ID r183/\∃r184:Bool,q23_.C r5.1 a180.ID r184/\(if r183=r184 then L5 r1 r5 z0 a11 z1 z3 a180 z2 φ else φ false)else L5 r1 r5 z0 a11 z1 z3 a180 z2 φ)else(if z1=true then ∃r185:Bool,q23_.C r5.1 a11.ID r185/\(if r185=true then φ false else L6 r1 r5 z2 φ)else L6 r1 r5 z2 φ))):L3 r1 r5 z0 a11 z1 z2 z3 φ:=mIn<|mAsk 2 h dT dF (fun h=>mIx 5 Aa5 h fun a180 h181 h=>Aav 12 h (fun _ h=>h) (fun _ h=>mLo 4 h (fun _ h=>h) fun r183 _ h=>mCal 3 h (fun _ h=>h) fun r184 _ h=>Ac1 0 h Bjv Bju (fun h=>mRet 6 h) fun h=>mFin 4 h) fun _ h=>mFin 14 h) fun h=>mAsk 4 h id fls (fun h=>Aav 4 h (fun _ h=>h) (fun _ h=>mRet 6 h) fun _ h=>mFin 4 h) fun h=>mFin 9 h
theorem L5_step(r1:api_Table×List api_FD×List Int×Bool)(r5:List Int×Int×Int)(z0:Int)(a11:api_Row)(z1:Bool)(z2:Int)(a64:api_Row)(z3:Int)(φ:Bool->Prop)(h:(if z1=true then(if z0=z2 then L4 r1 r5 z0 a11 true z3 z2 φ else ∃r186:Bool,q1_.C r1.2.1 a11.ID a11.Values a64.ID a64.Values r186/\L4 r1 r5 z0 a11 (not r186) z3 z2 φ)else L4 r1 r5 z0 a11 false z3 z2 φ)):L5 r1 r5 z0 a11 z1 z2 a64 z3 φ:=mIn<|mAsk 1 h id fls (fun h=>mAsk 3 h Aaj Aai (fun h=>mFin 9 h) fun h=>mCal 3 h (fun _ h=>h) fun r186 _ h=>mFin 5 h) fun h=>mFin 13 h
theorem L6_step(r1:api_Table×List api_FD×List Int×Bool)(r5:List Int×Int×Int)(z0:Int)(φ:Bool->Prop)(h:L1 r1 r5 (IntKind.wrap .i64 (z0+1)) φ):L6 r1 r5 z0 φ:=mIn<|mFin 4 h
theorem L4_step(r1:api_Table×List api_FD×List Int×Bool)(r5:List Int×Int×Int)(z0:Int)(a11:api_Row)(z1:Bool)(z2 z3:Int)(φ:Bool->Prop)(h:L3 r1 r5 z0 a11 z1 z2 (IntKind.wrap .i64 (z3+1)) φ):L4 r1 r5 z0 a11 z1 z2 z3 φ:=mIn<|mFin 4 h
theorem enter(x0:drosslaw42_Case)(φ:Bool->Prop)(h:∃r173:api_Table×List api_FD×List Int×Bool,q32_.C x0 7 r173/\∃r174:Bool,q82_.C  r174/\(if r174=true then(if r173.2.2.2=true then ∃r175:Int,q79_.C r173.1 r173.2.1 r173.2.2.1 r175/\(if r175=0 then ∃r176:List Int×Int×Int,q102_.C r173.1 r173.2.1 r173.2.2.1 r176/\(if r176.2.2=0 then L1 r173 r176 0 φ else φ false)else L2  φ)else L2  φ)else L2  φ)):∃r,φ r/\C x0 r:=mEnt (fd:=Tryz.f5) (body:=B) (V:=W) (res:=res)<|Akn 6 h (fun _ h=>h) (fun(r173:api_Table×List api_FD×List Int×Bool)=>Aqf rfl (Ac5 (Amc (Ac5 rfl (Ac5 rfl (Ac5 rfl Aji)))) (Ac5 (Ac9 (e:=Aa0) (e':=Aa0) (fun _=>rfl) r173.2.1) (Ac5 (Ac9 (e:=(eI .i64)) (e':=(eI .i64)) (fun _=>rfl) r173.2.2.1) (Ac5 rfl Aji))))) (hf:=(fun _=>Ae5)) fun r173 _ h=>Aav 12 h (fun _ h=>h) (fun _ h=>mAsk 2 h id fls (fun h=>mCal 6 h (fun _ h=>h) fun r175 _ h=>Ac1 0 h Abv Abu (fun h=>mFin 3 h) fun h=>Akn 8 h (fun _ h=>h) (fun(r176:List Int×Int×Int)=>Aqf rfl (Ac5 (Ac9 (e:=(eI .i64)) (e':=(eI .i64)) (fun _=>rfl) r176.1) (Ac5 rfl (Ac5 rfl Aji)))) (hf:=(fun _=>Aah (Ach (Aa7 (Aam (e:=(eI .i64)) (fun _=>rfl)) (Aa7 rfl (Aa7 rfl Aax)))) rfl)) fun r176 _ h=>Ac1 10 h Abv Abu (fun h=>mRet 5 h) fun h=>mLen 6 Aa5 r173.1.Rows<|mFin 2 h) fun h=>mFin 11 h) fun _ h=>mFin 14 h
end drosslaw42_TractableEqual
end Go.Own
