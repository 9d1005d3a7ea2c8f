/- What the functions answer. No conditions. -/
import Derived.Test.YtmiedlcblpiemaaGreatDoorBase5
import Derived.Test.YtmiedlcblpiemaaGreatDoorOwn26
set_option linter.all false
namespace Go.Own
open Go.Proofs D
set_option maxRecDepth 100000
set_option maxHeartbeats 4000000
namespace q9_
noncomputable def B:Code:=(Tryz.f106.body).getD .skip
def W:List Nat:=[0,1,4,5,7,8,9,16]
def res (r:Int):D×List D:=(.lit (.int .i64 r),[])
def C (x0:List ByteArray) (x1:ByteArray) (r:Int):Prop:=Ret env 106 [.sl (x0.map eS),.lit (.string x1)] (res r).1 (res r).2
def L1 (x0:List ByteArray) (x1:ByteArray) (z0:Int) (φ:Int->Prop):Prop:=Pt env 106 W B [1,0,1,0] [(0,.sl (x0.map eS)),(1,.lit (.string x1)),(7,.lit (.int .i64 ((x0.length:Int)))),(8,.lit (.int .i64 z0))] (Lv env 106 Tryz.f106 2 res φ)
theorem L1_step (x0:List ByteArray) (x1:ByteArray) (z0:Int) (φ:Int->Prop) (h :
 (if z0<(x0.length:Int) then
 ∃ a1,lget x0 z0=some a1 /\
 (if x1.toList=a1.toList then
 φ z0
 else
 q9_.L1 x0 x1 ((IntKind.wrap .i64 (z0+1))) φ)
 else
 φ ((-1)))):L1 x0 x1 z0 φ:=
 mIn <|
 mAsk 2 h dT dF (fun h=>
 mIx 11 eS h fun a1 h2 h=>
 mAsk 1 h Arm Arl (fun h=>
 mRet 6 h) fun h=>
 mFin 7 h) fun h=>
 mRet 6 h
theorem enter (x0:List ByteArray) (x1:ByteArray) (φ:Int->Prop) (h :
 q9_.L1 x0 x1 0 φ):∃ r,φ r/\C x0 x1 r:=
 mEnt (fd:=Tryz.f106) (body:=B) (V:=W) (res:=res) <|
 mLen 5 eS x0 <|
 mFin 2 h
end q9_
namespace q8_
noncomputable def B:Code:=(Tryz.f85.body).getD .skip
def W:List Nat:=[0,1,4]
def res (r:Bool):D×List D:=(.lit (.bool r),[])
def C (x0:List ByteArray) (x1:ByteArray) (r:Bool):Prop:=Ret env 85 [.sl (x0.map eS),.lit (.string x1)] (res r).1 (res r).2
theorem enter (x0:List ByteArray) (x1:ByteArray) (φ:Bool->Prop) (h :
 ∃ r1:Int,q9_.C x0 x1 r1 /\
 φ ((decide (0<=r1)))):∃ r,φ r/\C x0 x1 r:=
 mEnt (fd:=Tryz.f85) (body:=B) (V:=W) (res:=res) <|
 mCal 6 h (fun _ h=>h) fun r1 _ h=>
 mRet 3 h
end q8_
namespace q63_
noncomputable def B:Code:=(Tryz.f84.body).getD .skip
def W:List Nat:=[0,2,3,4,5,16,18,19,20,56]
def res (r:Bool):D×List D:=(.lit (.bool r),[])
def C (x0:ByteArray) (r:Bool):Prop:=Ret env 84 [.lit (.string x0)] (res r).1 (res r).2
def L1 (x0:ByteArray) (z0:Int) (φ:Bool->Prop):Prop:=Pt env 84 W B [1,1,0,1,0] [(0,.lit (.string x0)),(18,.lit (.int .i64 ((Acw x0)))),(19,.lit (.int .i64 z0))] (Lv env 84 Tryz.f84 1 res φ)
def L2 (x0:ByteArray) (z0 z1:Int) (z2:Bool) (φ:Bool->Prop):Prop:=Pt env 84 W B [1,1,0,1,0,0,1,1,0,0,1,1,1,0] [(0,.lit (.string x0)),(3,.lit (.int .i64 z0)),(4,.lit (.int .u8 z1)),(5,.lit (.bool z2)),(18,.lit (.int .i64 ((Acw x0)))),(19,.lit (.int .i64 z0))] (Lv env 84 Tryz.f84 1 res φ)
def L3 (x0:ByteArray) (z0:Int) (φ:Bool->Prop):Prop:=Pt env 84 W B [1,1,0,1,0,0,1,1,1] [(0,.lit (.string x0)),(18,.lit (.int .i64 ((Acw x0)))),(19,.lit (.int .i64 z0))] (Lv env 84 Tryz.f84 1 res φ)
theorem L1_step (x0:ByteArray) (z0:Int) (φ:Bool->Prop) (h :
 (if z0<(Acw x0) then
 ∃ b1,((0:Int)<=z0/\x0[(z0).toNat]? = some b1) /\
 (if 97<=(u8i b1) then
 (if (u8i b1)<=122 then
 q63_.L2 x0 z0 ((u8i b1)) true φ
 else
 (if 65<=(u8i b1) then
 (if (u8i b1)<=90 then
 q63_.L2 x0 z0 ((u8i b1)) true φ
 else
 q63_.L2 x0 z0 ((u8i b1)) (((u8i b1) == 95)) φ)
 else
 q63_.L2 x0 z0 ((u8i b1)) (((u8i b1) == 95)) φ))
 else
 (if 65<=(u8i b1) then
 (if (u8i b1)<=90 then
 q63_.L2 x0 z0 ((u8i b1)) true φ
 else
 q63_.L2 x0 z0 ((u8i b1)) (((u8i b1) == 95)) φ)
 else
 q63_.L2 x0 z0 ((u8i b1)) (((u8i b1) == 95)) φ))
 else
 φ true)):L1 x0 z0 φ:=
 mIn <|
 mAsk 2 h dT dF (fun h=>
 mSt 10 h fun b1 h=>
 mAsk 4 h dT dF (fun h=>
 mAsk 2 h dT dF (fun h=>
 mFin 15 h) fun h=>
 mAsk 3 h dT dF (fun h=>
 mAsk 2 h dT dF (fun h=>
 mFin 8 h) fun h=>
 mFin 8 h) fun h=>
 mFin 11 h) fun h=>
 mAsk 6 h dT dF (fun h=>
 mAsk 2 h dT dF (fun h=>
 mFin 8 h) fun h=>
 mFin 8 h) fun h=>
 mFin 11 h) fun h=>
 mRet 6 h
theorem L2_step (x0:ByteArray) (z0 z1:Int) (z2:Bool) (φ:Bool->Prop) (h :
 (if z2=true then
 q63_.L3 x0 z0 φ
 else
 (if z0=0 then
 φ false
 else
 (if z1<48 then
 φ false
 else
 (if 57<z1 then
 φ false
 else
 q63_.L3 x0 z0 φ))))):L2 x0 z0 z1 z2 φ:=
 mIn <|
 mAsk 1 h id fls (fun h=>
 mFin 16 h) fun h=>
 mAsk 3 h Abz Aby (fun h=>
 mRet 14 h) fun h=>
 mAsk 2 h dT dF (fun h=>
 mRet 11 h) fun h=>
 mAsk 3 h dT dF (fun h=>
 mRet 7 h) fun h=>
 mFin 5 h
theorem L3_step (x0:ByteArray) (z0:Int) (φ:Bool->Prop) (h :
 q63_.L1 x0 ((IntKind.wrap .i64 (z0+1))) φ):L3 x0 z0 φ:=
 mIn <|
 mFin 4 h
theorem enter (x0:ByteArray) (φ:Bool->Prop) (h :
 (if x0.toList=((⟨#[]⟩:ByteArray)).toList then
 φ false
 else
 (if 24<(Acw x0) then
 φ false
 else
 (if x0.toList=((⟨#[110,117,108,108]⟩:ByteArray)).toList then
 φ false
 else
 q63_.L1 x0 0 φ)))):∃ r,φ r/\C x0 r:=
 mEnt (fd:=Tryz.f84) (body:=B) (V:=W) (res:=res) <|
 mAsk 5 h Arm Arl (fun h=>
 mRet 14 h) fun h=>
 mAsk 3 h dT dF (fun h=>
 mRet 10 h) fun h=>
 mAsk 3 h Arm Arl (fun h=>
 mRet 6 h) fun h=>
 mFin 9 h
end q63_
namespace q68_
noncomputable def B:Code:=(Tryz.f109.body).getD .skip
def W:List Nat:=[0,1,2,4,5,15,20,31]
def res (r:Bool):D×List D:=(.lit (.bool r),[])
def C (x0:api_Value) (r:Bool):Prop:=Ret env 109 [.agg [.lit (.int .i64 x0.Kind),.lit (.int .i64 x0.Num),.lit (.string x0.Str)]] (res r).1 (res r).2
theorem enter (x0:api_Value) (φ:Bool->Prop) (h :
 (if x0.Kind=0 then
 (if x0.Num=0 then
 φ ((x0.Str.toList == ((⟨#[]⟩:ByteArray)).toList))
 else
 φ false)
 else
 (if x0.Kind=1 then
 φ ((x0.Str.toList == ((⟨#[]⟩:ByteArray)).toList))
 else
 (if x0.Kind=2 then
 (if x0.Num=0 then
 φ ((decide ((Acw x0.Str)<=200)))
 else
 φ false)
 else
 (if x0.Kind=3 then
 (if 1<=x0.Num then
 φ ((x0.Str.toList == ((⟨#[]⟩:ByteArray)).toList))
 else
 φ false)
 else
 φ false))))):∃ r,φ r/\C x0 r:=
 mEnt (fd:=Tryz.f109) (body:=B) (V:=W) (res:=res) <|
 mCon 12 h Abz Aby (fun h=>
 mAsk 3 h Abz Aby (fun h=>
 mRet 7 h) fun h=>
 mRet 7 h) fun h=>
 mCon 4 h Abz Aby (fun h=>
 mRet 6 h) fun h=>
 mCon 4 h Abz Aby (fun h=>
 mAsk 3 h Abz Aby (fun h=>
 mRet 8 h) fun h=>
 mRet 8 h) fun h=>
 mCon 4 h Abz Aby (fun h=>
 mAsk 3 h dT dF (fun h=>
 mRet 7 h) fun h=>
 mRet 7 h) fun h=>
 mRet 4 h
end q68_
namespace q17_
noncomputable def B:Code:=(Tryz.f108.body).getD .skip
def W:List Nat:=[0,1,2]
def res (r:Bool):D×List D:=(.lit (.bool r),[])
def C (x0:api_Value) (r:Bool):Prop:=Ret env 108 [.agg [.lit (.int .i64 x0.Kind),.lit (.int .i64 x0.Num),.lit (.string x0.Str)]] (res r).1 (res r).2
theorem enter (x0:api_Value) (φ:Bool->Prop) (h :
 ∃ r1:Bool,q68_.C x0 r1 /\
 φ ((not r1))):∃ r,φ r/\C x0 r:=
 mEnt (fd:=Tryz.f108) (body:=B) (V:=W) (res:=res) <|
 mCal 6 h (fun _ h=>h) fun r1 _ h=>
 mRet 3 h
end q17_
namespace q1_
noncomputable def B:Code:=(Tryz.f133.body).getD .skip
def W:List Nat:=[0,1,4,5,7,8,9,16]
def res (r:Int):D×List D:=(.lit (.int .i64 r),[])
def C (x0:List api_Value) (r:Int):Prop:=Ret env 133 [.sl (x0.map Aa1),.fn 108 []] (res r).1 (res r).2
def L1 (x0:List api_Value) (z0:Int) (φ:Int->Prop):Prop:=Pt env 133 W B [1,0,1,0] [(0,.sl (x0.map Aa1)),(1,.fn 108 []),(7,.lit (.int .i64 ((x0.length:Int)))),(8,.lit (.int .i64 z0))] (Lv env 133 Tryz.f133 2 res φ)
theorem L1_step (x0:List api_Value) (z0:Int) (φ:Int->Prop) (h :
 (if z0<(x0.length:Int) then
 ∃ a1,lget x0 z0=some a1 /\
 ∃ r3:Bool,q17_.C a1 r3 /\
 (if r3=true then
 φ z0
 else
 q1_.L1 x0 ((IntKind.wrap .i64 (z0+1))) φ)
 else
 φ ((-1)))):L1 x0 z0 φ:=
 mIn <|
 mAsk 2 h dT dF (fun h=>
 mIx 11 Aa1 h fun a1 h2 h=>
 Aaw 1 h (fun _ h=>h) (fun _ h=>
 mRet 6 h) fun _ h=>
 mFin 7 h) fun h=>
 mRet 6 h
theorem enter (x0:List api_Value) (φ:Int->Prop) (h :
 q1_.L1 x0 0 φ):∃ r,φ r/\C x0 r:=
 mEnt (fd:=Tryz.f133) (body:=B) (V:=W) (res:=res) <|
 mLen 5 Aa1 x0 <|
 mFin 2 h
end q1_
namespace q0_
noncomputable def B:Code:=(Tryz.f107.body).getD .skip
def W:List Nat:=[0,1,4]
def res (r:Bool):D×List D:=(.lit (.bool r),[])
def C (x0:List api_Value) (r:Bool):Prop:=Ret env 107 [.sl (x0.map Aa1),.fn 108 []] (res r).1 (res r).2
theorem enter (x0:List api_Value) (φ:Bool->Prop) (h :
 ∃ r1:Int,q1_.C x0 r1 /\
 φ ((decide (0<=r1)))):∃ r,φ r/\C x0 r:=
 mEnt (fd:=Tryz.f107) (body:=B) (V:=W) (res:=res) <|
 mCal 6 h (fun _ h=>h) fun r1 _ h=>
 mRet 3 h
end q0_
namespace q23_
noncomputable def B:Code:=(Tryz.f86.body).getD .skip
def W:List Nat:=[0,2]
def res (r:Bool):D×List D:=(.lit (.bool r),[])
def C (x0:List api_Value) (r:Bool):Prop:=Ret env 86 [.sl (x0.map Aa1)] (res r).1 (res r).2
theorem enter (x0:List api_Value) (φ:Bool->Prop) (h :
 ∃ r1:Bool,q0_.C x0 r1 /\
 φ ((not r1))):∃ r,φ r/\C x0 r:=
 mEnt (fd:=Tryz.f86) (body:=B) (V:=W) (res:=res) <|
 mCal 5 h (fun _ h=>h) fun r1 _ h=>
 mRet 3 h
end q23_
namespace q69_
noncomputable def B:Code:=(Tryz.f42.body).getD .skip
def W:List Nat:=[0,1,2,3,4,5,7,11,21,23,24,25,26,40,43,44,45,46,49,54,62]
def res (r:Int):D×List D:=(.lit (.int .i64 r),[])
def C (x0:api_Table) (r:Int):Prop:=Ret env 42 [.agg [.lit (.string x0.Name),.sl (x0.Attrs.map eS),.sl (x0.Rows.map Aa2)]] (res r).1 (res r).2
def L1 (x0:api_Table) (z0:Int) (φ:Int->Prop):Prop:=Pt env 42 W B [1,1,1,0,1,0] [(0,.agg [.lit (.string x0.Name),.sl (x0.Attrs.map eS),.sl (x0.Rows.map Aa2)]),(1,.box [.lit (.string x0.Name),.sl (x0.Attrs.map eS),.sl (x0.Rows.map Aa2)]),(23,.sl (x0.Attrs.map eS)),(24,.lit (.int .i64 ((x0.Attrs.length:Int)))),(25,.lit (.int .i64 z0))] (Lv env 42 Tryz.f42 1 res φ)
def L2 (x0:api_Table) (z0 z1:Int) (φ:Int->Prop):Prop:=Pt env 42 W B [1,1,1,1,1,0,1,0] [(0,.agg [.lit (.string x0.Name),.sl (x0.Attrs.map eS),.sl (x0.Rows.map Aa2)]),(1,.box [.lit (.string x0.Name),.sl (x0.Attrs.map eS),.sl (x0.Rows.map Aa2)]),(5,.lit (.int .i64 z0)),(43,.sl (x0.Rows.map Aa2)),(44,.lit (.int .i64 ((x0.Rows.length:Int)))),(45,.lit (.int .i64 z1))] (Lv env 42 Tryz.f42 1 res φ)
theorem L1_step (x0:api_Table) (z0:Int) (φ:Int->Prop) (h :
 (if z0<(x0.Attrs.length:Int) then
 ∃ a2,lget x0.Attrs z0=some a2 /\
 ∃ r4:Bool,q63_.C a2 r4 /\
 (if r4=true then
 0<=z0 /\
 (0<=z0.toNat/\z0.toNat<=x0.Attrs.length) /\
 ∃ r7:Bool,q8_.C ((List.take (z0.toNat-0) x0.Attrs)) a2 r7 /\
 (if r7=true then
 φ 1
 else
 q69_.L1 x0 ((IntKind.wrap .i64 (z0+1))) φ)
 else
 φ 1)
 else
 q69_.L2 x0 0 0 φ)):L1 x0 z0 φ:=
 mIn <|
 mAsk 2 h dT dF (fun h=>
 mIx 5 eS h fun a2 h3 h=>
 Aaw 6 h (fun _ h=>h) (fun _ h=>
 h.elim fun h5 h=>
 h.elim fun h6 h=>
 mVl 5 (Anv (t:=37) (x:=(.tmp 35)) (lo:=none) (hi:=(some (.tmp 36))) (lo':=none) (hi':=some (z0).toNat) (e:=eS) (l:=x0.Attrs) (et:=9) (k:=1) (by kernel_rfl) (by kernel_rfl) Ahz (Ai0 (i:=z0) (q:=.i64) (by kernel_rfl) h5) (by kernel_rfl) (by kernel_rfl) (fun _=>rfl) (by kernel_rfl) h6.1 h6.2) <|
 Aaw 1 h (fun _ h=>h) (fun _ h=>
 mRet 6 h) fun _ h=>
 mFin 8 h) fun _ h=>
 mRet 14 h) fun h=>
 mLen 9 Aa2 x0.Rows <|
 mFin 2 h
theorem L2_step (x0:api_Table) (z0 z1:Int) (φ:Int->Prop) (h :
 (if z1<(x0.Rows.length:Int) then
 ∃ a8,lget x0.Rows z1=some a8 /\
 (if a8.ID<=z0 then
 φ 1
 else
 (if (a8.Values.length:Int)=(x0.Attrs.length:Int) then
 ∃ r10:Bool,q23_.C a8.Values r10 /\
 (if r10=true then
 q69_.L2 x0 a8.ID ((IntKind.wrap .i64 (z1+1))) φ
 else
 φ 1)
 else
 φ 6))
 else
 φ 0)):L2 x0 z0 z1 φ:=
 mIn <|
 mAsk 2 h dT dF (fun h=>
 mIx 4 Aa2 h fun a8 h9 h=>
 mCon 11 h dT dF (fun h=>
 mRet 3 h) fun h=>
 mLen 3 Aa1 a8.Values <|
 mLen 2 eS x0.Attrs <|
 Beh 3 h Ad1 Ad0 (fun h=>
 mRet 3 h) fun h=>
 mCal 3 h (fun _ h=>h) fun r10 _ h=>
 Beh 3 h (fun h=>fls (Bju h)) (fun h=>id (Bjt h)) (fun h=>
 mRet 3 h) fun h=>
 mFin 10 h) fun h=>
 mRet 6 h
theorem enter (x0:api_Table) (φ:Int->Prop) (h :
 ∃ r1:Bool,q63_.C x0.Name r1 /\
 (if r1=true then
 (if 16<(x0.Attrs.length:Int) then
 φ 3
 else
 (if 1000<(x0.Rows.length:Int) then
 φ 3
 else
 q69_.L1 x0 0 φ))
 else
 φ 1)):∃ r,φ r/\C x0 r:=
 mEnt (fd:=Tryz.f42) (body:=B) (V:=W) (res:=res) <|
 Aaw 7 h (fun _ h=>h) (fun _ h=>
 mLen 7 eS x0.Attrs <|
 mAsk 0 h dT dF (fun h=>
 mRet 11 h) fun h=>
 mLen 3 Aa2 x0.Rows <|
 mAsk 0 h dT dF (fun h=>
 mRet 6 h) fun h=>
 mLen 7 eS x0.Attrs <|
 mFin 2 h) fun _ h=>
 mRet 6 h
end q69_
namespace q31_
noncomputable def B:Code:=(Tryz.f79.body).getD .skip
def W:List Nat:=[0,1,2,4,5,15,20]
def res (r:Bool):D×List D:=(.lit (.bool r),[])
def C (x0:api_Value) (r:Bool):Prop:=Ret env 79 [.agg [.lit (.int .i64 x0.Kind),.lit (.int .i64 x0.Num),.lit (.string x0.Str)]] (res r).1 (res r).2
theorem enter (x0:api_Value) (φ:Bool->Prop) (h :
 (if x0.Kind=0 then
 (if x0.Num=0 then
 φ ((x0.Str.toList == ((⟨#[]⟩:ByteArray)).toList))
 else
 φ false)
 else
 (if x0.Kind=1 then
 φ ((x0.Str.toList == ((⟨#[]⟩:ByteArray)).toList))
 else
 (if x0.Kind=2 then
 (if x0.Num=0 then
 φ ((decide ((Acw x0.Str)<=200)))
 else
 φ false)
 else
 (if x0.Kind=3 then
 (if 1<=x0.Num then
 φ ((x0.Str.toList == ((⟨#[]⟩:ByteArray)).toList))
 else
 φ false)
 else
 φ false))))):∃ r,φ r/\C x0 r:=
 mEnt (fd:=Tryz.f79) (body:=B) (V:=W) (res:=res) <|
 mCon 12 h Abz Aby (fun h=>
 mAsk 3 h Abz Aby (fun h=>
 mRet 7 h) fun h=>
 mRet 7 h) fun h=>
 mCon 4 h Abz Aby (fun h=>
 mRet 6 h) fun h=>
 mCon 4 h Abz Aby (fun h=>
 mAsk 3 h Abz Aby (fun h=>
 mRet 8 h) fun h=>
 mRet 8 h) fun h=>
 mAsk 4 h Abz Aby (fun h=>
 mAsk 3 h dT dF (fun h=>
 mRet 8 h) fun h=>
 mRet 8 h) fun h=>
 mRet 12 h
end q31_
namespace q24_
noncomputable def B:Code:=(Tryz.f39.body).getD .skip
def W:List Nat:=[0,2,3,7,15]
def res (r:Bool):D×List D:=(.lit (.bool r),[])
def C (x0:List api_Value) (r:Bool):Prop:=Ret env 39 [.sl (x0.map Aa1)] (res r).1 (res r).2
def L1 (x0:List api_Value) (z0:Int) (φ:Bool->Prop):Prop:=Pt env 39 W B [1,0,1,0] [(0,.sl (x0.map Aa1)),(3,.lit (.int .i64 z0))] (Lv env 39 Tryz.f39 1 res φ)
theorem L1_step (x0:List api_Value) (z0:Int) (φ:Bool->Prop) (h :
 (if z0<(x0.length:Int) then
 ∃ a1,lget x0 z0=some a1 /\
 ∃ r3:Bool,q31_.C a1 r3 /\
 (if r3=true then
 q24_.L1 x0 ((IntKind.wrap .i64 (z0+1))) φ
 else
 φ false)
 else
 φ true)):L1 x0 z0 φ:=
 mIn <|
 mLen 4 Aa1 x0 <|
 mAsk 0 h dT dF (fun h=>
 mIx 6 Aa1 h fun a1 h2 h=>
 Aaw 1 h (fun _ h=>h) (fun _ h=>
 mFin 9 h) fun _ h=>
 mRet 6 h) fun h=>
 mRet 6 h
theorem enter (x0:List api_Value) (φ:Bool->Prop) (h :
 q24_.L1 x0 0 φ):∃ r,φ r/\C x0 r:=
 mEnt (fd:=Tryz.f39) (body:=B) (V:=W) (res:=res) <|
 mFin 6 h
end q24_
namespace q25_
noncomputable def B:Code:=(Tryz.f77.body).getD .skip
def W:List Nat:=[0,2]
def res (r:Bool):D×List D:=(.lit (.bool r),[])
def C (x0:Int) (r:Bool):Prop:=Ret env 77 [.lit (.int .u8 x0)] (res r).1 (res r).2
theorem enter (x0:Int) (φ:Bool->Prop) (h :
 (if 97<=x0 then
 (if x0<=122 then
 φ true
 else
 (if 65<=x0 then
 (if x0<=90 then
 φ true
 else
 φ ((x0 == 95)))
 else
 φ ((x0 == 95))))
 else
 (if 65<=x0 then
 (if x0<=90 then
 φ true
 else
 φ ((x0 == 95)))
 else
 φ ((x0 == 95))))):∃ r,φ r/\C x0 r:=
 mEnt (fd:=Tryz.f77) (body:=B) (V:=W) (res:=res) <|
 mAsk 5 h dT dF (fun h=>
 mAsk 2 h dT dF (fun h=>
 mRet 15 h) fun h=>
 mAsk 3 h dT dF (fun h=>
 mAsk 2 h dT dF (fun h=>
 mRet 8 h) fun h=>
 mRet 8 h) fun h=>
 mRet 11 h) fun h=>
 mAsk 6 h dT dF (fun h=>
 mAsk 2 h dT dF (fun h=>
 mRet 8 h) fun h=>
 mRet 8 h) fun h=>
 mRet 11 h
end q25_
namespace q47_
noncomputable def B:Code:=(Tryz.f37.body).getD .skip
def W:List Nat:=[0,2,3,21,25,44]
def res (r:Bool):D×List D:=(.lit (.bool r),[])
def C (x0:ByteArray) (r:Bool):Prop:=Ret env 37 [.lit (.string x0)] (res r).1 (res r).2
def L1 (x0:ByteArray) (z0:Int) (φ:Bool->Prop):Prop:=Pt env 37 W B [1,1,0,1,0] [(0,.lit (.string x0)),(3,.lit (.int .i64 z0))] (Lv env 37 Tryz.f37 1 res φ)
def L2 (x0:ByteArray) (z0:Int) (φ:Bool->Prop):Prop:=Pt env 37 W B [1,1,0,1,0,0,1,1] [(0,.lit (.string x0)),(3,.lit (.int .i64 z0))] (Lv env 37 Tryz.f37 1 res φ)
theorem L1_step (x0:ByteArray) (z0:Int) (φ:Bool->Prop) (h :
 (if z0<(Acw x0) then
 ∃ b5,((0:Int)<=z0/\x0[(z0).toNat]? = some b5) /\
 ∃ r8:Bool,q25_.C ((u8i b5)) r8 /\
 (if r8=true then
 q47_.L2 x0 z0 φ
 else
 ∃ b9,((0:Int)<=z0/\x0[(z0).toNat]? = some b9) /\
 (if (u8i b9)<48 then
 φ false
 else
 ∃ b12,((0:Int)<=z0/\x0[(z0).toNat]? = some b12) /\
 (if 57<(u8i b12) then
 φ false
 else
 q47_.L2 x0 z0 φ)))
 else
 φ true)):L1 x0 z0 φ:=
 mIn <|
 mAsk 5 h dT dF (fun h=>
 mSt 6 h fun b5 h=>
 Aaw 0 h (fun _ h=>h) (fun _ h=>
 mFin 16 h) fun _ h=>
 mSt 4 h fun b9 h=>
 mAsk 0 h dT dF (fun h=>
 mRet 12 h) fun h=>
 mSt 3 h fun b12 h=>
 mAsk 0 h dT dF (fun h=>
 mRet 7 h) fun h=>
 mFin 5 h) fun h=>
 mRet 6 h
theorem L2_step (x0:ByteArray) (z0:Int) (φ:Bool->Prop) (h :
 q47_.L1 x0 ((IntKind.wrap .i64 (z0+1))) φ):L2 x0 z0 φ:=
 mIn <|
 mFin 5 h
theorem enter (x0:ByteArray) (φ:Bool->Prop) (h :
 (if (Acw x0)=0 then
 φ false
 else
 (if 24<(Acw x0) then
 φ false
 else
 ∃ b1,((0:Int)<=0/\x0[((0:Int)).toNat]? = some b1) /\
 ∃ r4:Bool,q25_.C ((u8i b1)) r4 /\
 (if r4=true then
 (if x0.toList=((⟨#[110,117,108,108]⟩:ByteArray)).toList then
 φ false
 else
 q47_.L1 x0 0 φ)
 else
 φ false)))):∃ r,φ r/\C x0 r:=
 mEnt (fd:=Tryz.f37) (body:=B) (V:=W) (res:=res) <|
 mAsk 6 h Abz Aby (fun h=>
 mRet 20 h) fun h=>
 mAsk 3 h dT dF (fun h=>
 mRet 16 h) fun h=>
 mSt 3 h fun b1 h=>
 Aaw 0 h (fun _ h=>h) (fun _ h=>
 mAsk 4 h Arm Arl (fun h=>
 mRet 6 h) fun h=>
 mFin 7 h) fun _ h=>
 mRet 11 h
end q47_
namespace q48_
noncomputable def B:Code:=(Tryz.f78.body).getD .skip
def W:List Nat:=[0,1,4,5,9,17]
def res (r:Int):D×List D:=(.lit (.int .i64 r),[])
def C (x0:List ByteArray) (x1:ByteArray) (r:Int):Prop:=Ret env 78 [.sl (x0.map eS),.lit (.string x1)] (res r).1 (res r).2
def L1 (x0:List ByteArray) (x1:ByteArray) (z0:Int) (φ:Int->Prop):Prop:=Pt env 78 W B [1,0,1,0] [(0,.sl (x0.map eS)),(1,.lit (.string x1)),(5,.lit (.int .i64 z0))] (Lv env 78 Tryz.f78 2 res φ)
theorem L1_step (x0:List ByteArray) (x1:ByteArray) (z0:Int) (φ:Int->Prop) (h :
 (if z0<(x0.length:Int) then
 ∃ a1,lget x0 z0=some a1 /\
 (if a1.toList=x1.toList then
 φ z0
 else
 q48_.L1 x0 x1 ((IntKind.wrap .i64 (z0+1))) φ)
 else
 φ ((-1)))):L1 x0 x1 z0 φ:=
 mIn <|
 mLen 4 eS x0 <|
 mAsk 0 h dT dF (fun h=>
 mIx 6 eS h fun a1 h2 h=>
 mAsk 2 h Arm Arl (fun h=>
 mRet 6 h) fun h=>
 mFin 8 h) fun h=>
 mRet 6 h
theorem enter (x0:List ByteArray) (x1:ByteArray) (φ:Int->Prop) (h :
 q48_.L1 x0 x1 0 φ):∃ r,φ r/\C x0 x1 r:=
 mEnt (fd:=Tryz.f78) (body:=B) (V:=W) (res:=res) <|
 mFin 6 h
end q48_
namespace q32_
noncomputable def B:Code:=(Tryz.f38.body).getD .skip
def W:List Nat:=[0,2,3,7,26]
def res (r:Bool):D×List D:=(.lit (.bool r),[])
def C (x0:List ByteArray) (r:Bool):Prop:=Ret env 38 [.sl (x0.map eS)] (res r).1 (res r).2
def L1 (x0:List ByteArray) (z0:Int) (φ:Bool->Prop):Prop:=Pt env 38 W B [1,0,1,0] [(0,.sl (x0.map eS)),(3,.lit (.int .i64 z0))] (Lv env 38 Tryz.f38 1 res φ)
theorem L1_step (x0:List ByteArray) (z0:Int) (φ:Bool->Prop) (h :
 (if z0<(x0.length:Int) then
 ∃ a1,lget x0 z0=some a1 /\
 ∃ r3:Bool,q47_.C a1 r3 /\
 (if r3=true then
 0<=z0 /\
 (0<=z0.toNat/\z0.toNat<=x0.length) /\
 ∃ r6:Int,q48_.C ((List.take (z0.toNat-0) x0)) a1 r6 /\
 (if 0<=r6 then
 φ false
 else
 q32_.L1 x0 ((IntKind.wrap .i64 (z0+1))) φ)
 else
 φ false)
 else
 φ true)):L1 x0 z0 φ:=
 mIn <|
 mLen 4 eS x0 <|
 mAsk 0 h dT dF (fun h=>
 mIx 6 eS h fun a1 h2 h=>
 Aaw 1 h (fun _ h=>h) (fun _ h=>
 h.elim fun h4 h=>
 h.elim fun h5 h=>
 mVl 4 (Anv (t:=37) (x:=(.tmp 17)) (lo:=none) (hi:=(some (.tmp 18))) (lo':=none) (hi':=some (z0).toNat) (e:=eS) (l:=x0) (et:=9) (k:=1) (by kernel_rfl) (by kernel_rfl) Ahz (Ai0 (i:=z0) (q:=.i64) (by kernel_rfl) h4) (by kernel_rfl) (by kernel_rfl) (fun _=>rfl) (by kernel_rfl) h5.1 h5.2) <|
 mIxf 2 eS h2 <|
 mCal 1 h (fun _ h=>h) fun r6 _ h=>
 mAsk 0 h dT dF (fun h=>
 mRet 6 h) fun h=>
 mFin 9 h) fun _ h=>
 mRet 17 h) fun h=>
 mRet 6 h
theorem enter (x0:List ByteArray) (φ:Bool->Prop) (h :
 q32_.L1 x0 0 φ):∃ r,φ r/\C x0 r:=
 mEnt (fd:=Tryz.f38) (body:=B) (V:=W) (res:=res) <|
 mFin 6 h
end q32_
namespace q33_
noncomputable def B:Code:=(Tryz.f14.body).getD .skip
def W:List Nat:=[0,1,2,3,4,5,9,19,23,28,39,48,52]
def res (r:Int):D×List D:=(.lit (.int .i64 r),[])
def C (x0:api_Table) (r:Int):Prop:=Ret env 14 [.agg [.lit (.string x0.Name),.sl (x0.Attrs.map eS),.sl (x0.Rows.map Aa2)]] (res r).1 (res r).2
def L1 (x0:api_Table) (z0 z1:Int) (φ:Int->Prop):Prop:=Pt env 14 W B [1,1,1,1,1,0,1,0] [(0,.agg [.lit (.string x0.Name),.sl (x0.Attrs.map eS),.sl (x0.Rows.map Aa2)]),(1,.box [.lit (.string x0.Name),.sl (x0.Attrs.map eS),.sl (x0.Rows.map Aa2)]),(3,.lit (.int .i64 z0)),(4,.lit (.int .i64 z1))] (Lv env 14 Tryz.f14 1 res φ)
theorem L1_step (x0:api_Table) (z0 z1:Int) (φ:Int->Prop) (h :
 (if z1<(x0.Rows.length:Int) then
 ∃ a3,lget x0.Rows z1=some a3 /\
 (if a3.ID<=z0 then
 φ 1
 else
 (if (a3.Values.length:Int)=(x0.Attrs.length:Int) then
 ∃ r5:Bool,q24_.C a3.Values r5 /\
 (if r5=true then
 q33_.L1 x0 a3.ID ((IntKind.wrap .i64 (z1+1))) φ
 else
 φ 1)
 else
 φ 6))
 else
 φ 0)):L1 x0 z0 z1 φ:=
 mIn <|
 mLen 5 Aa2 x0.Rows <|
 mAsk 0 h dT dF (fun h=>
 mIx 7 Aa2 h fun a3 h4 h=>
 mAsk 8 h dT dF (fun h=>
 mRet 5 h) fun h=>
 mLen 11 Aa1 a3.Values <|
 mLen 2 eS x0.Attrs <|
 Adh 0 h Ad1 Ad0 (fun h=>
 mRet 5 h) fun h=>
 Aaw 6 h (fun _ h=>h) (fun _ h=>
 mFin 9 h) fun _ h=>
 mRet 6 h) fun h=>
 mRet 6 h
theorem enter (x0:api_Table) (φ:Int->Prop) (h :
 ∃ r1:Bool,q47_.C x0.Name r1 /\
 (if r1=true then
 (if 16<(x0.Attrs.length:Int) then
 φ 3
 else
 (if 1000<(x0.Rows.length:Int) then
 φ 3
 else
 ∃ r2:Bool,q32_.C x0.Attrs r2 /\
 (if r2=true then
 q33_.L1 x0 0 0 φ
 else
 φ 1)))
 else
 φ 1)):∃ r,φ r/\C x0 r:=
 mEnt (fd:=Tryz.f14) (body:=B) (V:=W) (res:=res) <|
 Aaw 7 h (fun _ h=>h) (fun _ h=>
 mLen 7 eS x0.Attrs <|
 mAsk 0 h dT dF (fun h=>
 mRet 11 h) fun h=>
 mLen 3 Aa2 x0.Rows <|
 mAsk 0 h dT dF (fun h=>
 mRet 6 h) fun h=>
 Aaw 7 h (fun _ h=>h) (fun _ h=>
 mFin 10 h) fun _ h=>
 mRet 6 h) fun _ h=>
 mRet 6 h
end q33_
namespace q49_
noncomputable def B:Code:=(Tryz.f51.body).getD .skip
def W:List Nat:=[0,2,3,5]
def res (r:List Int):D×List D:=(.own (r.map (eI .i64)),[])
def C (x0:Int) (r:List Int):Prop:=Ret env 51 [.lit (.int .u32 x0)] (res r).1 (res r).2
def L1 (x0:Int) (z0:List Int) (φ:List Int->Prop):Prop:=Pt env 51 W B [1,1,0,0] [(0,.lit (.int .u32 x0)),(3,.own (z0.map (eI .i64)))] (Lv env 51 Tryz.f51 1 res φ)
theorem L1_step (x0:Int) (z0:List Int) (φ:List Int->Prop) (h :
 (if x0=0 then
 φ z0
 else
 (0<=x0/\x0<4294967296) /\
 (z0.length+1)*8<=140737488355328 /\
 q49_.L1 ((bAnd .u32 x0 (IntKind.wrap .u32 (x0-1)))) ((z0++[(tz32 x0)])) φ)):L1 x0 z0 φ:=
 mIn <|
 Adh 3 h Ad1 Ad0 (fun h=>
 h.elim fun h1 h=>
 Azo 6 (show Ret env 95 [.lit (.int .u32 x0)] (.lit (.int .i64 ((tz32 x0)))) [] from Bc4 (by kernel_rfl) h1) <|
 mApp 1 (eI .i64) z0 ([(tz32 x0)]) h fun h=>
 mFin 9 h) fun h=>
 mRet 7 h
theorem enter (x0:Int) (φ:List Int->Prop) (h :
 q49_.L1 x0 ([]) φ):∃ r,φ r/\C x0 r:=
 mEnt (fd:=Tryz.f51) (body:=B) (V:=W) (res:=res) <|
 mFin 6 h
end q49_
namespace q50_
noncomputable def B:Code:=(Tryz.f30.body).getD .skip
def W:List Nat:=[0,2,3,4,11]
def res (r:Int):D×List D:=(.lit (.int .u32 r),[])
def C (x0 r:Int):Prop:=Ret env 30 [.lit (.int .i64 x0)] (res r).1 (res r).2
def L1 (x0 z0 z1:Int) (φ:Int->Prop):Prop:=Pt env 30 W B [1,1,0,1,0] [(0,.lit (.int .i64 x0)),(3,.lit (.int .u32 z0)),(4,.lit (.int .i64 z1))] (Lv env 30 Tryz.f30 1 res φ)
theorem L1_step (x0 z0 z1:Int) (φ:Int->Prop) (h :
 (if z1<x0 then
 (if z1<32 then
 0<=z1 /\
 q50_.L1 x0 ((bOr .u32 z0 (shlw .u32 1 z1))) ((IntKind.wrap .i64 (z1+1))) φ
 else
 φ z0)
 else
 φ z0)):L1 x0 z0 z1 φ:=
 mIn <|
 mAsk 4 h dT dF (fun h=>
 mAsk 2 h dT dF (fun h=>
 h.elim fun h1 h=>
 mBi 7 (Bep (t:=34) (q:=.u32) (q':=.i64) (i1:=1) h1) <|
 mFin 8 h) fun h=>
 mRet 8 h) fun h=>
 mRet 11 h
theorem enter (x0:Int) (φ:Int->Prop) (h :
 q50_.L1 x0 0 0 φ):∃ r,φ r/\C x0 r:=
 mEnt (fd:=Tryz.f30) (body:=B) (V:=W) (res:=res) <|
 mFin 9 h
end q50_
namespace q56_
noncomputable def B:Code:=(Tryz.f68.body).getD .skip
def W:List Nat:=[0,1,4]
def res (r:Bool):D×List D:=(.lit (.bool r),[])
def C (x0 x1:Int) (r:Bool):Prop:=Ret env 68 [.lit (.int .u32 x0),.lit (.int .i64 x1)] (res r).1 (res r).2
theorem enter (x0 x1:Int) (φ:Bool->Prop) (h :
 (if 0<=x1 then
 (if x1<32 then
 0<=x1 /\
 φ (((bAnd .u32 (shrw .u32 x0 x1) 1) == 1))
 else
 φ false)
 else
 φ false)):∃ r,φ r/\C x0 x1 r:=
 mEnt (fd:=Tryz.f68) (body:=B) (V:=W) (res:=res) <|
 mAsk 5 h dT dF (fun h=>
 mAsk 2 h dT dF (fun h=>
 h.elim fun h1 h=>
 mBi 4 (Akq (t:=34) (q:=.u32) (q':=.i64) (i1:=x0) h1) <|
 mRet 5 h) fun h=>
 mRet 10 h) fun h=>
 mRet 13 h
end q56_
namespace q51_
noncomputable def B:Code:=(Tryz.f132.body).getD .skip
def W:List Nat:=[0,1,4,7,10]
def res (r:Int):D×List D:=(.lit (.int .i64 r),[])
def C (x0 x1 r:Int):Prop:=Ret env 132 [.lit (.int .i64 x0),.lit (.int .i64 x1)] (res r).1 (res r).2
theorem enter (x0 x1:Int) (φ:Int->Prop) (h :
 (if x0<x1 then
 φ ((-1))
 else
 (if x1<x0 then
 φ 1
 else
 φ 0))):∃ r,φ r/\C x0 x1 r:=
 mEnt (fd:=Tryz.f132) (body:=B) (V:=W) (res:=res) <|
 mAsk 6 h dT dF (fun h=>
 mRet 5 h) fun h=>
 mAsk 6 h dT dF (fun h=>
 mRet 5 h) fun h=>
 mRet 6 h
end q51_
namespace q19_
noncomputable def B:Code:=(Tryz.f147.body).getD .skip
def W:List Nat:=[0,1,4,5,15,24]
def res (r:Int):D×List D:=(.lit (.int .i64 r),[])
def C (x0 x1:ByteArray) (r:Int):Prop:=Ret env 147 [.lit (.string x0),.lit (.string x1)] (res r).1 (res r).2
def L1 (x0 x1:ByteArray) (z0:Int) (φ:Int->Prop):Prop:=Pt env 147 W B [1,0,1,0] [(0,.lit (.string x0)),(1,.lit (.string x1)),(5,.lit (.int .i64 z0))] (Lv env 147 Tryz.f147 2 res φ)
def L2 (x0 x1:ByteArray) (φ:Int->Prop):Prop:=Pt env 147 W B [1,1,0] [(0,.lit (.string x0)),(1,.lit (.string x1))] (Lv env 147 Tryz.f147 2 res φ)
theorem L1_step (x0 x1:ByteArray) (z0:Int) (φ:Int->Prop) (h :
 (if z0<(Acw x0) then
 (if z0<(Acw x1) then
 ∃ b1,((0:Int)<=z0/\x0[(z0).toNat]? = some b1) /\
 ∃ b4,((0:Int)<=z0/\x1[(z0).toNat]? = some b4) /\
 (if (u8i b1)=(u8i b4) then
 q19_.L1 x0 x1 ((IntKind.wrap .i64 (z0+1))) φ
 else
 ∃ b7,((0:Int)<=z0/\x0[(z0).toNat]? = some b7) /\
 ∃ b10,((0:Int)<=z0/\x1[(z0).toNat]? = some b10) /\
 ∃ r13:Int,q51_.C ((IntKind.wrap .i64 (u8i b7))) ((IntKind.wrap .i64 (u8i b10))) r13 /\
 φ r13)
 else
 q19_.L2 x0 x1 φ)
 else
 q19_.L2 x0 x1 φ)):L1 x0 x1 z0 φ:=
 mIn <|
 mAsk 5 h dT dF (fun h=>
 mAsk 4 h dT dF (fun h=>
 mSt 7 h fun b1 h=>
 mSt 2 h fun b4 h=>
 Adh 0 h Ad1 Ad0 (fun h=>
 mSt 5 h fun b7 h=>
 mSt 3 h fun b10 h=>
 mCal 1 h (fun _ h=>h) fun r13 _ h=>
 mRet 2 h) fun h=>
 mFin 8 h) fun h=>
 mFin 4 h) fun h=>
 mFin 9 h
theorem L2_step (x0 x1:ByteArray) (φ:Int->Prop) (h :
 ∃ r14:Int,q51_.C ((Acw x0)) ((Acw x1)) r14 /\
 φ r14):L2 x0 x1 φ:=
 mIn <|
 mCal 5 h (fun _ h=>h) fun r14 _ h=>
 mRet 2 h
theorem enter (x0 x1:ByteArray) (φ:Int->Prop) (h :
 q19_.L1 x0 x1 0 φ):∃ r,φ r/\C x0 x1 r:=
 mEnt (fd:=Tryz.f147) (body:=B) (V:=W) (res:=res) <|
 mFin 6 h
end q19_
namespace q20_
noncomputable def B:Code:=(Tryz.f131.body).getD .skip
def W:List Nat:=[0,1,2,3,4,5,6,13,21]
def res (r:Int):D×List D:=(.lit (.int .i64 r),[])
def C (x0 x1:api_Value) (r:Int):Prop:=Ret env 131 [.agg [.lit (.int .i64 x0.Kind),.lit (.int .i64 x0.Num),.lit (.string x0.Str)],.agg [.lit (.int .i64 x1.Kind),.lit (.int .i64 x1.Num),.lit (.string x1.Str)]] (res r).1 (res r).2
theorem enter (x0 x1:api_Value) (φ:Int->Prop) (h :
 ∃ r1:Int,q51_.C x0.Kind x1.Kind r1 /\
 (if r1=0 then
 ∃ r2:Int,q51_.C x0.Num x1.Num r2 /\
 (if r2=0 then
 ∃ r3:Int,q19_.C x0.Str x1.Str r3 /\
 φ r3
 else
 φ r2)
 else
 φ r1)):∃ r,φ r/\C x0 x1 r:=
 mEnt (fd:=Tryz.f131) (body:=B) (V:=W) (res:=res) <|
 mCal 10 h (fun _ h=>h) fun r1 _ h=>
 Adh 4 h Ad1 Ad0 (fun h=>
 mRet 6 h) fun h=>
 mCal 8 h (fun _ h=>h) fun r2 _ h=>
 Adh 4 h Ad1 Ad0 (fun h=>
 mRet 6 h) fun h=>
 mCal 8 h (fun _ h=>h) fun r3 _ h=>
 mRet 2 h
end q20_
namespace q34_
noncomputable def B:Code:=(Tryz.f105.body).getD .skip
def W:List Nat:=[0,1,4,5,6,16,29]
def res (r:Int):D×List D:=(.lit (.int .i64 r),[])
def C (x0 x1:List api_Value) (r:Int):Prop:=Ret env 105 [.sl (x0.map Aa1),.sl (x1.map Aa1)] (res r).1 (res r).2
def L1 (x0 x1:List api_Value) (z0:Int) (φ:Int->Prop):Prop:=Pt env 105 W B [1,0,1,0] [(0,.sl (x0.map Aa1)),(1,.sl (x1.map Aa1)),(5,.lit (.int .i64 z0))] (Lv env 105 Tryz.f105 2 res φ)
def L2 (x0 x1:List api_Value) (φ:Int->Prop):Prop:=Pt env 105 W B [1,1,0] [(0,.sl (x0.map Aa1)),(1,.sl (x1.map Aa1))] (Lv env 105 Tryz.f105 2 res φ)
theorem L1_step (x0 x1:List api_Value) (z0:Int) (φ:Int->Prop) (h :
 (if z0<(x0.length:Int) then
 (if z0<(x1.length:Int) then
 ∃ a1,lget x0 z0=some a1 /\
 ∃ a3,lget x1 z0=some a3 /\
 ∃ r5:Int,q20_.C a1 a3 r5 /\
 (if r5=0 then
 q34_.L1 x0 x1 ((IntKind.wrap .i64 (z0+1))) φ
 else
 φ r5)
 else
 q34_.L2 x0 x1 φ)
 else
 q34_.L2 x0 x1 φ)):L1 x0 x1 z0 φ:=
 mIn <|
 mLen 4 Aa1 x0 <|
 mAsk 0 h dT dF (fun h=>
 mLen 3 Aa1 x1 <|
 mAsk 0 h dT dF (fun h=>
 mIx 7 Aa1 h fun a1 h2 h=>
 mIx 3 Aa1 h fun a3 h4 h=>
 mCal 1 h (fun _ h=>h) fun r5 _ h=>
 Adh 4 h Ad1 Ad0 (fun h=>
 mRet 6 h) fun h=>
 mFin 8 h) fun h=>
 mFin 4 h) fun h=>
 mFin 9 h
theorem L2_step (x0 x1:List api_Value) (φ:Int->Prop) (h :
 ∃ r6:Int,q51_.C ((x0.length:Int)) ((x1.length:Int)) r6 /\
 φ r6):L2 x0 x1 φ:=
 mIn <|
 mLen 2 Aa1 x0 <|
 mLen 1 Aa1 x1 <|
 mCal 0 h (fun _ h=>h) fun r6 _ h=>
 mRet 2 h
theorem enter (x0 x1:List api_Value) (φ:Int->Prop) (h :
 q34_.L1 x0 x1 0 φ):∃ r,φ r/\C x0 x1 r:=
 mEnt (fd:=Tryz.f105) (body:=B) (V:=W) (res:=res) <|
 mFin 6 h
end q34_
namespace q52_
noncomputable def B:Code:=(Tryz.f82.body).getD .skip
def W:List Nat:=[0,1,4]
def res (r:Bool):D×List D:=(.lit (.bool r),[])
def C (x0 x1:List api_Value) (r:Bool):Prop:=Ret env 82 [.sl (x0.map Aa1),.sl (x1.map Aa1)] (res r).1 (res r).2
theorem enter (x0 x1:List api_Value) (φ:Bool->Prop) (h :
 ∃ r1:Int,q34_.C x0 x1 r1 /\
 φ ((r1 == 0))):∃ r,φ r/\C x0 x1 r:=
 mEnt (fd:=Tryz.f82) (body:=B) (V:=W) (res:=res) <|
 mCal 6 h (fun _ h=>h) fun r1 _ h=>
 mRet 3 h
end q52_
namespace q64_
noncomputable def B:Code:=(Tryz.f137.body).getD .skip
def W:List Nat:=[0,1,4,5,6,11]
def res (r:List Int):D×List D:=(.own (r.map (eI .u8)),[])
def C (x1:Int) (k0_0 r:List Int):Prop:=Ret env 137 [.own (k0_0.map (eI .u8)),.lit (.int .i64 x1)] (res r).1 (res r).2
def L1 (k0_0:List Int) (z0 z1:Int) (φ:List Int->Prop):Prop:=Pt env 137 W B [1,1,0,1,0] [(0,.own (k0_0.map (eI .u8))),(5,.lit (.int .u64 z0)),(6,.lit (.int .i64 z1))] (Lv env 137 Tryz.f137 2 res φ)
theorem L1_step (k0_0:List Int) (z0 z1:Int) (φ:List Int->Prop) (h :
 (if 0<=z1 then
 0<=z1 /\
 (k0_0.length+1)*1<=140737488355328 /\
 q64_.L1 ((k0_0++[(IntKind.wrap .u8 (shrw .u64 z0 z1))])) z0 ((IntKind.wrap .i64 (z1-8))) φ
 else
 φ k0_0)):L1 k0_0 z0 z1 φ:=
 mIn <|
 mAsk 3 h dT dF (fun h=>
 h.elim fun h1 h=>
 mBi 7 (Akq (t:=143) (q:=.u64) (q':=.i64) (i1:=z0) h1) <|
 mApp 2 (eI .u8) k0_0 ([(IntKind.wrap .u8 (shrw .u64 z0 z1))]) h fun h=>
 mFin 7 h) fun h=>
 mRet 7 h
theorem enter (x1:Int) (k0_0:List Int) (φ:List Int->Prop) (h :
 q64_.L1 k0_0 ((bXor .u64 (IntKind.wrap .u64 x1) 9223372036854775808)) 56 φ):∃ r,φ r/\C x1 k0_0 r:=
 mEnt (fd:=Tryz.f137) (body:=B) (V:=W) (res:=res) <|
 mFin 12 h
end q64_
namespace q72_
noncomputable def B:Code:=(Tryz.f116.body).getD .skip
def W:List Nat:=[0,1,2,3,4,5,8,14,15,22,26,27,28,41]
def res (r:ByteArray×Int):D×List D:=(.tup [.lit (.string r.1),.lit (.int .i64 r.2)],[])
def C (x0:api_Value) (r:ByteArray×Int):Prop:=Ret env 116 [.agg [.lit (.int .i64 x0.Kind),.lit (.int .i64 x0.Num),.lit (.string x0.Str)]] (res r).1 (res r).2
def L2 (x0:api_Value) (z0:Bool) (φ:ByteArray×Int->Prop):Prop:=Pt env 116 W B [1,1,1,0,1,0,1,0] [(0,.agg [.lit (.int .i64 x0.Kind),.lit (.int .i64 x0.Num),.lit (.string x0.Str)]),(1,.box [.lit (.int .i64 x0.Kind),.lit (.int .i64 x0.Num),.lit (.string x0.Str)]),(4,.own (([(IntKind.wrap .u8 x0.Kind)]).map (eI .u8))),(14,.lit (.int .i64 x0.Kind)),(15,.lit (.bool z0))] (Lv env 116 Tryz.f116 1 res φ)
def L3 (x0:api_Value) (φ:ByteArray×Int->Prop):Prop:=Pt env 116 W B [1,1,1,0,1,0,1,1,0] [(0,.agg [.lit (.int .i64 x0.Kind),.lit (.int .i64 x0.Num),.lit (.string x0.Str)]),(1,.box [.lit (.int .i64 x0.Kind),.lit (.int .i64 x0.Num),.lit (.string x0.Str)]),(4,.own (([(IntKind.wrap .u8 x0.Kind)]).map (eI .u8))),(14,.lit (.int .i64 x0.Kind))] (Lv env 116 Tryz.f116 1 res φ)
def L1 (x0:api_Value) (z0:List Int) (z1:Int) (φ:ByteArray×Int->Prop):Prop:=Pt env 116 W B [1,1,1,0,1,0,1,1,1,0,0,1,0] [(0,.agg [.lit (.int .i64 x0.Kind),.lit (.int .i64 x0.Num),.lit (.string x0.Str)]),(1,.box [.lit (.int .i64 x0.Kind),.lit (.int .i64 x0.Num),.lit (.string x0.Str)]),(4,.own (z0.map (eI .u8))),(26,.lit (.int .i64 ((Acw x0.Str)))),(27,.lit (.int .i64 z1))] (Lv env 116 Tryz.f116 1 res φ)
def L4 (x0:api_Value) (z0:List Int) (z1:Int) (φ:ByteArray×Int->Prop):Prop:=Pt env 116 W B [1,1,1,0,1,0,1,1,1,0,0,1,0,0,1,1,1] [(0,.agg [.lit (.int .i64 x0.Kind),.lit (.int .i64 x0.Num),.lit (.string x0.Str)]),(1,.box [.lit (.int .i64 x0.Kind),.lit (.int .i64 x0.Num),.lit (.string x0.Str)]),(4,.own (z0.map (eI .u8))),(26,.lit (.int .i64 ((Acw x0.Str)))),(27,.lit (.int .i64 z1))] (Lv env 116 Tryz.f116 1 res φ)
theorem L2_step (x0:api_Value) (z0:Bool) (φ:ByteArray×Int->Prop) (h :
 ∃ r2:List Int,q64_.C x0.Num ([(IntKind.wrap .u8 x0.Kind)]) r2 /\
 (∀ x∈r2,0<=x/\x<256) /\
 φ (((Aju r2),0))):L2 x0 z0 φ:=
 mIn <|
 mCal 4 h (fun _ h=>h) (hf:=(fun _=>Abf (Abu (e:=(eI .u8)) (fun _=>rfl)) rfl)) fun r2 _ h=>
 h.elim fun h3 h=>
 mVl 4 (Anw (s:=157) (t:=9) (et:=5) (x:=(.tmp 49)) (d:=.alias 4 []) (l:=r2) (by kernel_rfl) (by kernel_rfl) (Ain (by kernel_rfl)) (by kernel_rfl) (by kernel_rfl) (by kernel_rfl) h3) <|
 mRet 3 h
theorem L3_step (x0:api_Value) (φ:ByteArray×Int->Prop) (h :
 (if x0.Kind=2 then
 q72_.L1 x0 ([(IntKind.wrap .u8 x0.Kind)]) 0 φ
 else
 (∀ x∈([(IntKind.wrap .u8 x0.Kind)]),0<=x/\x<256) /\
 φ (((Aju [(IntKind.wrap .u8 x0.Kind)]),0)))):L3 x0 φ:=
 mIn <|
 mCon 4 h Abz Aby (fun h=>
 mFin 6 h) fun h=>
 h.elim fun h4 h=>
 mVl 3 (Anw (s:=157) (t:=9) (et:=5) (x:=(.tmp 49)) (d:=.alias 4 []) (l:=[(IntKind.wrap .u8 x0.Kind)]) (by kernel_rfl) (by kernel_rfl) (Ain (by kernel_rfl)) (by kernel_rfl) (by kernel_rfl) (by kernel_rfl) h4) <|
 mRet 3 h
theorem L1_step (x0:api_Value) (z0:List Int) (z1:Int) (φ:ByteArray×Int->Prop) (h :
 (if z1<(Acw x0.Str) then
 ∃ b5,((0:Int)<=z1/\x0.Str[(z1).toNat]? = some b5) /\
 (z0.length+1)*1<=140737488355328 /\
 ∃ b9,((0:Int)<=z1/\x0.Str[(z1).toNat]? = some b9) /\
 (if (u8i b9)=0 then
 (((z0++[(u8i b5)])).length+1)*1<=140737488355328 /\
 q72_.L4 x0 (((z0++[(u8i b5)])++[255])) z1 φ
 else
 q72_.L4 x0 ((z0++[(u8i b5)])) z1 φ)
 else
 (z0.length+2)*1<=140737488355328 /\
 (∀ x∈((z0++[0,1])),0<=x/\x<256) /\
 φ (((Aju (z0++[0,1])),0)))):L1 x0 z0 z1 φ:=
 mIn <|
 mAsk 2 h dT dF (fun h=>
 mSt 12 h fun b5 h=>
 mApp 1 (eI .u8) z0 ([(u8i b5)]) h fun h=>
 mSt 6 h fun b9 h=>
 mAsk 0 h Abz Aby (fun h=>
 mApp 5 (eI .u8) ((z0++[(u8i b5)])) ([255]) h fun h=>
 mFin 2 h) fun h=>
 mFin 3 h) fun h=>
 mApp 6 (eI .u8) z0 ([0,1]) h fun h=>
 h.elim fun h14 h=>
 mVl 4 (Anw (s:=157) (t:=9) (et:=5) (x:=(.tmp 49)) (d:=.alias 4 []) (l:=(z0++[0,1])) (by kernel_rfl) (by kernel_rfl) (Ain (by kernel_rfl)) (by kernel_rfl) (by kernel_rfl) (by kernel_rfl) h14) <|
 mRet 3 h
theorem L4_step (x0:api_Value) (z0:List Int) (z1:Int) (φ:ByteArray×Int->Prop) (h :
 q72_.L1 x0 z0 ((IntKind.wrap .i64 (z1+1))) φ):L4 x0 z0 z1 φ:=
 mIn <|
 mFin 4 h
theorem enter (x0:api_Value) (φ:ByteArray×Int->Prop) (h :
 ∃ r1:Bool,q68_.C x0 r1 /\
 (if r1=true then
 (if x0.Kind=1 then
 (if x0.Kind=1 then
 q72_.L2 x0 ((x0.Kind == 1)) φ
 else
 q72_.L3 x0 φ)
 else
 (if x0.Kind=3 then
 q72_.L2 x0 ((x0.Kind == 3)) φ
 else
 q72_.L3 x0 φ))
 else
 φ (((⟨#[]⟩:ByteArray),1)))):∃ r,φ r/\C x0 r:=
 mEnt (fd:=Tryz.f116) (body:=B) (V:=W) (res:=res) <|
 Aaw 7 h (fun _ h=>h) (fun _ h=>
 mCon 19 h Abz Aby (fun h=>
 mCon 1 h Abz Aby (fun h=>
 mFin 0 h) fun h=>
 mFin 0 h) fun h=>
 mCon 4 h Abz Aby (fun h=>
 mFin 0 h) fun h=>
 mFin 0 h) fun _ h=>
 mRet 7 h
end q72_
namespace q26_
noncomputable def B:Code:=(Tryz.f83.body).getD .skip
def W:List Nat:=[0,1,2,4,5,6,11,16]
def res (r:List api_Value):D×List D:=(.own (r.map Aa1),[])
def C (x0:api_Row) (x1:Int) (r:List api_Value):Prop:=Ret env 83 [.agg [.lit (.int .i64 x0.ID),.sl (x0.Values.map Aa1)],.lit (.int .u32 x1)] (res r).1 (res r).2
def L1 (x0:api_Row) (x1:Int) (z0:List api_Value) (z1:Int) (φ:List api_Value->Prop):Prop:=Pt env 83 W B [1,1,0,1,0] [(0,.agg [.lit (.int .i64 x0.ID),.sl (x0.Values.map Aa1)]),(1,.lit (.int .u32 x1)),(2,.box [.lit (.int .i64 x0.ID),.sl (x0.Values.map Aa1)]),(5,.own (z0.map Aa1)),(6,.lit (.int .i64 z1))] (Lv env 83 Tryz.f83 2 res φ)
def L2 (x0:api_Row) (x1:Int) (z0:List api_Value) (z1:Int) (φ:List api_Value->Prop):Prop:=Pt env 83 W B [1,1,0,1,0,0,1,1] [(0,.agg [.lit (.int .i64 x0.ID),.sl (x0.Values.map Aa1)]),(1,.lit (.int .u32 x1)),(2,.box [.lit (.int .i64 x0.ID),.sl (x0.Values.map Aa1)]),(5,.own (z0.map Aa1)),(6,.lit (.int .i64 z1))] (Lv env 83 Tryz.f83 2 res φ)
theorem L1_step (x0:api_Row) (x1:Int) (z0:List api_Value) (z1:Int) (φ:List api_Value->Prop) (h :
 (if z1<(x0.Values.length:Int) then
 ∃ r1:Bool,q56_.C x1 z1 r1 /\
 (if r1=true then
 ∃ a2,lget x0.Values z1=some a2 /\
 (z0.length+1)*32<=140737488355328 /\
 q26_.L2 x0 x1 ((z0++[a2])) z1 φ
 else
 q26_.L2 x0 x1 z0 z1 φ)
 else
 φ z0)):L1 x0 x1 z0 z1 φ:=
 mIn <|
 mLen 5 Aa1 x0.Values <|
 mAsk 0 h dT dF (fun h=>
 Aaw 6 h (fun _ h=>h) (fun _ h=>
 mIx 7 Aa1 h fun a2 h3 h=>
 mApp 2 Aa1 z0 ([a2]) h fun h=>
 mFin 2 h) fun _ h=>
 mFin 3 h) fun h=>
 mRet 7 h
theorem L2_step (x0:api_Row) (x1:Int) (z0:List api_Value) (z1:Int) (φ:List api_Value->Prop) (h :
 q26_.L1 x0 x1 z0 ((IntKind.wrap .i64 (z1+1))) φ):L2 x0 x1 z0 z1 φ:=
 mIn <|
 mFin 5 h
theorem enter (x0:api_Row) (x1:Int) (φ:List api_Value->Prop) (h :
 q26_.L1 x0 x1 ([]) 0 φ):∃ r,φ r/\C x0 x1 r:=
 mEnt (fd:=Tryz.f83) (body:=B) (V:=W) (res:=res) <|
 mFin 10 h
end q26_
namespace q35_
noncomputable def B:Code:=(Tryz.f41.body).getD .skip
def W:List Nat:=[0,1,2,3,4,6]
def res (r:Bool):D×List D:=(.lit (.bool r),[])
def C (x0 x1:api_Row) (x2:Int) (r:Bool):Prop:=Ret env 41 [.agg [.lit (.int .i64 x0.ID),.sl (x0.Values.map Aa1)],.agg [.lit (.int .i64 x1.ID),.sl (x1.Values.map Aa1)],.lit (.int .u32 x2)] (res r).1 (res r).2
theorem enter (x0 x1:api_Row) (x2:Int) (φ:Bool->Prop) (h :
 ∃ r1:List api_Value,q26_.C x0 x2 r1 /\
 ∃ r2:List api_Value,q26_.C x1 x2 r2 /\
 ∃ r3:Bool,q52_.C r1 r2 r3 /\
 φ r3):∃ r,φ r/\C x0 x1 x2 r:=
 mEnt (fd:=Tryz.f41) (body:=B) (V:=W) (res:=res) <|
 mLo 8 h (fun _ h=>h) (hf:=(fun _=>Bdo (Abu (e:=Aa1) (fun _=>rfl)))) fun r1 _ h=>
 mCal 2 h (fun _ h=>h) (hf:=(fun _=>Abf (Abu (e:=Aa1) (fun _=>rfl)) rfl)) fun r2 _ h=>
 mCal 0 h (fun _ h=>h) (hr:=by exact (Ach (Abw (s:=9) (ps:=[]) (l:=r1) (e:=Aa1) (e':=Aa1) (fun _=>rfl) (by kernel_rfl)) (Ach (Abw (s:=12) (ps:=[]) (l:=r2) (e:=Aa1) (e':=Aa1) (fun _=>rfl) (by kernel_rfl)) Af6))) fun r3 _ h=>
 mRet 2 h
end q35_
namespace q57_
noncomputable def B:Code:=(Tryz.f12.body).getD .skip
def W:List Nat:=[0,1,4]
def res (r:Bool):D×List D:=(.lit (.bool r),[])
def C (x0 x1:Int) (r:Bool):Prop:=Ret env 12 [.lit (.int .u32 x0),.lit (.int .u32 x1)] (res r).1 (res r).2
theorem enter (x0 x1:Int) (φ:Bool->Prop) (h :
 φ (((bAnd .u32 x0 x1) == x0))):∃ r,φ r/\C x0 x1 r:=
 mEnt (fd:=Tryz.f12) (body:=B) (V:=W) (res:=res) <|
 mRet 11 h
end q57_
namespace q59_
noncomputable def B:Code:=(Tryz.f60.body).getD .skip
def W:List Nat:=[0,1,4,6,12,15,16,17,18,19,29]
def res (r:Int):D×List D:=(.lit (.int .i64 r),[])
def C (x0:Int) (x1:List api_FD) (r:Int):Prop:=Ret env 60 [.lit (.int .i64 x0),.sl (x1.map Aa4)] (res r).1 (res r).2
def L1 (x0:Int) (x1:List api_FD) (z0:Int) (φ:Int->Prop):Prop:=Pt env 60 W B [1,1,1,0,1,0] [(0,.lit (.int .i64 x0)),(1,.sl (x1.map Aa4)),(16,.sl (x1.map Aa4)),(17,.lit (.int .i64 ((x1.length:Int)))),(18,.lit (.int .i64 z0))] (Lv env 60 Tryz.f60 2 res φ)
theorem L1_step (x0:Int) (x1:List api_FD) (z0:Int) (φ:Int->Prop) (h :
 (if z0<(x1.length:Int) then
 ∃ a1,lget x1 z0=some a1 /\
 0<=x0 /\
 (if (shrw .u32 (bOr .u32 a1.Lhs a1.Rhs) x0)=0 then
 q59_.L1 x0 x1 ((IntKind.wrap .i64 (z0+1))) φ
 else
 φ 1)
 else
 φ 0)):L1 x0 x1 z0 φ:=
 mIn <|
 mAsk 2 h dT dF (fun h=>
 mIx 4 Aa4 h fun a1 h2 h=>
 h.elim fun h3 h=>
 mBi 11 (Akq (t:=34) (q:=.u32) (q':=.i64) (i1:=(bOr .u32 a1.Lhs a1.Rhs)) h3) <|
 Adh 0 h Ad1 Ad0 (fun h=>
 mRet 5 h) fun h=>
 mFin 7 h) fun h=>
 mRet 6 h
theorem enter (x0:Int) (x1:List api_FD) (φ:Int->Prop) (h :
 (if x0<0 then
 φ 7
 else
 (if 16<x0 then
 φ 7
 else
 (if 64<(x1.length:Int) then
 φ 3
 else
 q59_.L1 x0 x1 0 φ)))):∃ r,φ r/\C x0 x1 r:=
 mEnt (fd:=Tryz.f60) (body:=B) (V:=W) (res:=res) <|
 mAsk 5 h dT dF (fun h=>
 mRet 9 h) fun h=>
 mAsk 2 h dT dF (fun h=>
 mRet 6 h) fun h=>
 mLen 6 Aa4 x1 <|
 mAsk 0 h dT dF (fun h=>
 mRet 5 h) fun h=>
 mLen 5 Aa4 x1 <|
 mFin 2 h
end q59_
namespace q36_
noncomputable def B:Code:=(Tryz.f64.body).getD .skip
def W:List Nat:=[0,1,4,5,6,12,15,21,41]
def res (r:Int):D×List D:=(.lit (.int .i64 r),[])
def C (x0:Int) (x1:List api_FD) (r:Int):Prop:=Ret env 64 [.lit (.int .i64 x0),.sl (x1.map Aa4)] (res r).1 (res r).2
def L1 (x1:List api_FD) (r1 z0:Int) (φ:Int->Prop):Prop:=Pt env 64 W B [1,1,1,1,0,1,0] [(1,.sl (x1.map Aa4)),(5,.lit (.int .u32 r1)),(6,.lit (.int .i64 z0))] (Lv env 64 Tryz.f64 2 res φ)
theorem L1_step (x1:List api_FD) (r1 z0:Int) (φ:Int->Prop) (h :
 (if z0<(x1.length:Int) then
 ∃ a2,lget x1 z0=some a2 /\
 ∃ r4:Bool,q57_.C a2.Lhs r1 r4 /\
 (if r4=true then
 ∃ r5:Bool,q57_.C a2.Rhs r1 r5 /\
 (if r5=true then
 q36_.L1 x1 r1 ((IntKind.wrap .i64 (z0+1))) φ
 else
 φ 1)
 else
 φ 1)
 else
 φ 0)):L1 x1 r1 z0 φ:=
 mIn <|
 mLen 4 Aa4 x1 <|
 mAsk 0 h dT dF (fun h=>
 mIx 6 Aa4 h fun a2 h3 h=>
 Aaw 3 h (fun _ h=>h) (fun _ h=>
 mIxf 4 Aa4 h3 <|
 Aaw 3 h (fun _ h=>h) (fun _ h=>
 mFin 10 h) fun _ h=>
 mRet 7 h) fun _ h=>
 mRet 16 h) fun h=>
 mRet 6 h
theorem enter (x0:Int) (x1:List api_FD) (φ:Int->Prop) (h :
 (if x0<0 then
 φ 7
 else
 (if 16<x0 then
 φ 7
 else
 (if 64<(x1.length:Int) then
 φ 3
 else
 ∃ r1:Int,q50_.C x0 r1 /\
 q36_.L1 x1 r1 0 φ)))):∃ r,φ r/\C x0 x1 r:=
 mEnt (fd:=Tryz.f64) (body:=B) (V:=W) (res:=res) <|
 mAsk 5 h dT dF (fun h=>
 mRet 9 h) fun h=>
 mAsk 2 h dT dF (fun h=>
 mRet 6 h) fun h=>
 mLen 6 Aa4 x1 <|
 mAsk 0 h dT dF (fun h=>
 mRet 5 h) fun h=>
 mCal 5 h (fun _ h=>h) fun r1 _ h=>
 mFin 5 h
end q36_
namespace q70_
noncomputable def B:Code:=(Tryz.f43.body).getD .skip
def W:List Nat:=[0,1,2,6,7,9,14,18,19,20,21,22,32]
def res (r:Int):D×List D:=(.lit (.int .i64 r),[])
def C (x0:Int) (x1:List api_FD) (x2:List api_MVD) (r:Int):Prop:=Ret env 43 [.lit (.int .i64 x0),.sl (x1.map Aa4),.sl (x2.map Aa6)] (res r).1 (res r).2
def L1 (x0:Int) (x2:List api_MVD) (z0:Int) (φ:Int->Prop):Prop:=Pt env 43 W B [1,1,1,0,1,0] [(0,.lit (.int .i64 x0)),(2,.sl (x2.map Aa6)),(19,.sl (x2.map Aa6)),(20,.lit (.int .i64 ((x2.length:Int)))),(21,.lit (.int .i64 z0))] (Lv env 43 Tryz.f43 3 res φ)
theorem L1_step (x0:Int) (x2:List api_MVD) (z0:Int) (φ:Int->Prop) (h :
 (if z0<(x2.length:Int) then
 ∃ a2,lget x2 z0=some a2 /\
 0<=x0 /\
 (if (shrw .u32 (bOr .u32 a2.Lhs a2.Rhs) x0)=0 then
 q70_.L1 x0 x2 ((IntKind.wrap .i64 (z0+1))) φ
 else
 φ 1)
 else
 φ 0)):L1 x0 x2 z0 φ:=
 mIn <|
 mAsk 2 h dT dF (fun h=>
 mIx 4 Aa6 h fun a2 h3 h=>
 h.elim fun h4 h=>
 mBi 11 (Akq (t:=34) (q:=.u32) (q':=.i64) (i1:=(bOr .u32 a2.Lhs a2.Rhs)) h4) <|
 Adh 0 h Ad1 Ad0 (fun h=>
 mRet 5 h) fun h=>
 mFin 7 h) fun h=>
 mRet 6 h
theorem enter (x0:Int) (x1:List api_FD) (x2:List api_MVD) (φ:Int->Prop) (h :
 ∃ r1:Int,q59_.C x0 x1 r1 /\
 (if r1=0 then
 (if 64<(x2.length:Int) then
 φ 3
 else
 q70_.L1 x0 x2 0 φ)
 else
 φ r1)):∃ r,φ r/\C x0 x1 x2 r:=
 mEnt (fd:=Tryz.f43) (body:=B) (V:=W) (res:=res) <|
 mCal 6 h (fun _ h=>h) fun r1 _ h=>
 Adh 4 h Ad1 Ad0 (fun h=>
 mRet 6 h) fun h=>
 mLen 5 Aa6 x2 <|
 mAsk 0 h dT dF (fun h=>
 mRet 5 h) fun h=>
 mLen 5 Aa6 x2 <|
 mFin 2 h
end q70_
namespace q27_
noncomputable def B:Code:=(Tryz.f80.body).getD .skip
def W:List Nat:=[0,1,4]
def res (r:Bool):D×List D:=(.lit (.bool r),[])
def C (x0 x1:Int) (r:Bool):Prop:=Ret env 80 [.lit (.int .i64 x0),.lit (.int .u32 x1)] (res r).1 (res r).2
theorem enter (x0 x1:Int) (φ:Bool->Prop) (h :
 ∃ r1:Int,q50_.C x0 r1 /\
 ∃ r2:Bool,q57_.C x1 r1 r2 /\
 φ r2):∃ r,φ r/\C x0 x1 r:=
 mEnt (fd:=Tryz.f80) (body:=B) (V:=W) (res:=res) <|
 mCal 6 h (fun _ h=>h) fun r1 _ h=>
 mCal 0 h (fun _ h=>h) fun r2 _ h=>
 mRet 2 h
end q27_
namespace q37_
noncomputable def B:Code:=(Tryz.f46.body).getD .skip
def W:List Nat:=[0,1,2,6,7,8,13,17,21,41]
def res (r:Int):D×List D:=(.lit (.int .i64 r),[])
def C (x0:Int) (x1:List api_FD) (x2:List api_MVD) (r:Int):Prop:=Ret env 46 [.lit (.int .i64 x0),.sl (x1.map Aa4),.sl (x2.map Aa6)] (res r).1 (res r).2
def L1 (x0:Int) (x2:List api_MVD) (z0:Int) (φ:Int->Prop):Prop:=Pt env 46 W B [1,1,1,0,1,0] [(0,.lit (.int .i64 x0)),(2,.sl (x2.map Aa6)),(8,.lit (.int .i64 z0))] (Lv env 46 Tryz.f46 3 res φ)
theorem L1_step (x0:Int) (x2:List api_MVD) (z0:Int) (φ:Int->Prop) (h :
 (if z0<(x2.length:Int) then
 ∃ a2,lget x2 z0=some a2 /\
 ∃ r4:Bool,q27_.C x0 a2.Lhs r4 /\
 (if r4=true then
 ∃ r5:Bool,q27_.C x0 a2.Rhs r5 /\
 (if r5=true then
 q37_.L1 x0 x2 ((IntKind.wrap .i64 (z0+1))) φ
 else
 φ 1)
 else
 φ 1)
 else
 φ 0)):L1 x0 x2 z0 φ:=
 mIn <|
 mLen 4 Aa6 x2 <|
 mAsk 0 h dT dF (fun h=>
 mIx 7 Aa6 h fun a2 h3 h=>
 Aaw 2 h (fun _ h=>h) (fun _ h=>
 mIxf 5 Aa6 h3 <|
 Aaw 2 h (fun _ h=>h) (fun _ h=>
 mFin 10 h) fun _ h=>
 mRet 7 h) fun _ h=>
 mRet 16 h) fun h=>
 mRet 6 h
theorem enter (x0:Int) (x1:List api_FD) (x2:List api_MVD) (φ:Int->Prop) (h :
 ∃ r1:Int,q36_.C x0 x1 r1 /\
 (if r1=0 then
 (if 64<(x2.length:Int) then
 φ 3
 else
 q37_.L1 x0 x2 0 φ)
 else
 φ r1)):∃ r,φ r/\C x0 x1 x2 r:=
 mEnt (fd:=Tryz.f46) (body:=B) (V:=W) (res:=res) <|
 mCal 6 h (fun _ h=>h) fun r1 _ h=>
 Adh 4 h Ad1 Ad0 (fun h=>
 mRet 6 h) fun h=>
 mLen 5 Aa6 x2 <|
 mAsk 0 h dT dF (fun h=>
 mRet 5 h) fun h=>
 mFin 6 h
end q37_
namespace q53_
noncomputable def B:Code:=(Tryz.f134.body).getD .skip
def W:List Nat:=[0,1,2,3,4,6,7,9,17,22,23,24,25,37,41,42,43,44,61]
def res (r:Bool):D×List D:=(.lit (.bool r),[])
def C (x0:api_Partition) (r:Bool):Prop:=Ret env 134 [.agg [.lit (.int .i64 x0.Rows),.sl (x0.Classes.map (eSl (eI .i64)))]] (res r).1 (res r).2
def L1 (x0:api_Partition) (z0:List Bool) (z1 z2:Int) (φ:Bool->Prop):Prop:=Pt env 134 W B [1,1,1,1,0,1,0] [(0,.agg [.lit (.int .i64 x0.Rows),.sl (x0.Classes.map (eSl (eI .i64)))]),(1,.box [.lit (.int .i64 x0.Rows),.sl (x0.Classes.map (eSl (eI .i64)))]),(3,.own (z0.map eB)),(4,.lit (.int .i64 z1)),(22,.sl (x0.Classes.map (eSl (eI .i64)))),(23,.lit (.int .i64 ((x0.Classes.length:Int)))),(24,.lit (.int .i64 z2))] (Lv env 134 Tryz.f134 1 res φ)
def L2 (x0:api_Partition) (z0:List Bool) (a4:Int) (a2:List Int) (z1 z2 z3:Int) (φ:Bool->Prop):Prop:=Pt env 134 W B [1,1,1,1,0,1,0,0,1,1,0,0,1,1,1,1,1,0] [(0,.agg [.lit (.int .i64 x0.Rows),.sl (x0.Classes.map (eSl (eI .i64)))]),(1,.box [.lit (.int .i64 x0.Rows),.sl (x0.Classes.map (eSl (eI .i64)))]),(3,.own (z0.map eB)),(4,.lit (.int .i64 a4)),(6,.sl (a2.map (eI .i64))),(7,.lit (.int .i64 z1)),(22,.sl (x0.Classes.map (eSl (eI .i64)))),(23,.lit (.int .i64 ((x0.Classes.length:Int)))),(24,.lit (.int .i64 z2)),(41,.sl (a2.map (eI .i64))),(42,.lit (.int .i64 ((a2.length:Int)))),(43,.lit (.int .i64 z3))] (Lv env 134 Tryz.f134 1 res φ)
theorem L1_step (x0:api_Partition) (z0:List Bool) (z1 z2:Int) (φ:Bool->Prop) (h :
 (if z2<(x0.Classes.length:Int) then
 ∃ a2,lget x0.Classes z2=some a2 /\
 (if (a2.length:Int)<2 then
 φ false
 else
 ∃ a4,lget a2 0=some a4 /\
 (if a4<=z1 then
 φ false
 else
 q53_.L2 x0 z0 a4 a2 ((-1)) z2 0 φ))
 else
 φ true)):L1 x0 z0 z1 z2 φ:=
 mIn <|
 mAsk 2 h dT dF (fun h=>
 mIx 4 (eSl (eI .i64)) h fun a2 h3 h=>
 mLen 5 (eI .i64) a2 <|
 mAsk 0 h dT dF (fun h=>
 mRet 12 h) fun h=>
 mIx 2 (eI .i64) h fun a4 h5 h=>
 mAsk 2 h dT dF (fun h=>
 mRet 6 h) fun h=>
 mIxf 6 (eI .i64) h5 <|
 mLen 8 (eI .i64) a2 <|
 mFin 2 h) fun h=>
 mRet 6 h
theorem L2_step (x0:api_Partition) (z0:List Bool) (a4:Int) (a2:List Int) (z1 z2 z3:Int) (φ:Bool->Prop) (h :
 (if z3<(a2.length:Int) then
 ∃ a6,lget a2 z3=some a6 /\
 (if a6<=z1 then
 φ false
 else
 (if x0.Rows<=a6 then
 φ false
 else
 ∃ a8,lget z0 a6=some a8 /\
 (if a8=true then
 φ false
 else
 q53_.L2 x0 ((lset z0 a6 true)) a4 a2 a6 z2 ((IntKind.wrap .i64 (z3+1))) φ)))
 else
 q53_.L1 x0 z0 a4 ((IntKind.wrap .i64 (z2+1))) φ)):L2 x0 z0 a4 a2 z1 z2 z3 φ:=
 mIn <|
 mAsk 2 h dT dF (fun h=>
 mIx 4 (eI .i64) h fun a6 h7 h=>
 mAsk 6 h dT dF (fun h=>
 mRet 17 h) fun h=>
 mAsk 4 h dT dF (fun h=>
 mRet 12 h) fun h=>
 mIy 4 eB h fun a8 h9 h=>
 mLdB 0 h9 h (fun h=>
 mRet 6 h) fun h=>
 mIyf 7 eB h9 <|
 mSto 0 eB true h9 <|
 mFin 9 h) fun h=>
 mFin 7 h
theorem enter (x0:api_Partition) (φ:Bool->Prop) (h :
 (if x0.Rows<0 then
 φ false
 else
 (if 1000<x0.Rows then
 φ false
 else
 (0<=x0.Rows/\x0.Rows*1<=281474976710656) /\
 q53_.L1 x0 ((List.replicate x0.Rows.toNat false)) ((-1)) 0 φ))):∃ r,φ r/\C x0 r:=
 mEnt (fd:=Tryz.f134) (body:=B) (V:=W) (res:=res) <|
 mAsk 7 h dT dF (fun h=>
 mRet 10 h) fun h=>
 mAsk 3 h dT dF (fun h=>
 mRet 6 h) fun h=>
 h.elim fun h1 h=>
 mVl 7 (Aq1 (t:=194) (x:=(.tmp 19)) (y:=(.tmp 19)) (q:=.i64) (i:=x0.Rows) (et:=4) (z:=.lit (.bool false)) (e:=eB) (a:=false) (k:=1) (by kernel_rfl) (by kernel_rfl) (by kernel_rfl) (by kernel_rfl) (by kernel_rfl) (by kernel_rfl) (by kernel_rfl) (by kernel_rfl) (by kernel_rfl) (by kernel_rfl) h1.1 h1.2) <|
 mLen 8 (eSl (eI .i64)) x0.Classes <|
 mFin 2 h
end q53_
end Go.Own
namespace Go.Own
def Abo (rows:Int):Int->List Bool->List Int->Option (List Bool)
 | _,seen,[]=>some seen
 | before,seen,i::r=>if i<=before∨rows<=i∨lget seen i=some true then none else Abo rows i (lset seen i true) r
def Abr (rows:Int):Int->List Bool->List (List Int)->Bool
 | _,_,[]=>true
 | first,seen,c::cs=>match c with
  | []=>false
  | [_]=>false
  | a::b::r=>if a<=first then false else match Abo rows (-1) seen (a::b::r) with
   | none=>false
   | some seen'=>Abr rows a seen' cs
def Ac8 (p:api_Partition):Bool:=if p.Rows<0 then false else if 1000<p.Rows then false else Abr p.Rows (-1) (List.replicate p.Rows.toNat false) p.Classes
def Ahs (p:api_Partition):Prop:=p.Classes.length<Big/\∀ c∈p.Classes,c.length<Big
theorem Akl {rows:Int}:∀ {r:List Int} {b:Int} {s s':List Bool},Abo rows b s r=some s'->s'.length=s.length
 | [],_,_,_,h=>by simp [Abo] at h;rw [h]
 | i::r,b,s,s',h=>by
  simp only [Abo] at h
  split at h
  ·cases h
  ·have:=Akl h;rw [this,Abm]
namespace q53_
theorem inner {x0:api_Partition} {a4 y24:Int} {a2:List Int} {φ:Bool->Prop} (hb:a2.length<Big):∀ (r:List Int) (k:Nat) (seen:List Bool) (before:Int),a2.drop k=r->(seen.length:Int)=x0.Rows->-1<=before ->
  (match Abo x0.Rows before seen r with
   | none=>φ false
   | some s=>L1 x0 s a4 (IntKind.wrap .i64 (y24+1)) φ)->L2 x0 seen a4 a2 before y24 k φ
 | [],k,seen,before,hd,hs,hbf,h=>by
  apply L2_step;have:=Abs hd;rw [if_neg (by omega)];exact h
 | i::r,k,seen,before,hd,hs,hbf,h=>by
  apply L2_step;have hk:=Abt hd;rw [if_pos (by omega)];refine ⟨i,Acs hd,?_⟩;simp only [Abo] at h
  split
  ·rename_i h1;rw [if_pos (.inl h1)] at h;exact h
  ·rename_i h1
   split
   ·rename_i h2;rw [if_pos (.inr (.inl h2))] at h;exact h
   ·rename_i h2;obtain ⟨b,hg⟩:=Agb (l:=seen) (i:=i) (by omega) (by omega);refine ⟨b,hg,?_⟩
    split
    ·rename_i h3;subst h3;rw [if_pos (.inr (.inr hg))] at h;exact h
    ·rename_i h3;have:¬ (i<=before∨x0.Rows<=i∨lget seen i=some true):=by
      rintro (h | h | h)
      ·exact h1 h
      ·exact h2 h
      ·rw [hg] at h;exact h3 (Option.some.inj h)
     rw [if_neg this] at h;rw [Aa3 (by unfold Big at hb;omega)];exact inner hb r (k+1) _ i (Aao hd) (by rw [Abm];exact hs) (by omega) h
theorem outer {x0:api_Partition} {φ:Bool->Prop} (hb:Ahs x0):∀ (cs:List (List Int)) (k:Nat) (seen:List Bool) (first:Int),x0.Classes.drop k=cs->(seen.length:Int)=x0.Rows ->
  φ (Abr x0.Rows first seen cs)->L1 x0 seen first k φ
 | [],k,seen,first,hd,hs,h=>by
  apply L1_step;have:=Abs hd;rw [if_neg (by omega)];exact h
 | c::cs,k,seen,first,hd,hs,h=>by
  apply L1_step;have hk:=Abt hd;have hc:c∈x0.Classes:=List.mem_of_getElem? (Aax hd);rw [if_pos (by omega)];refine ⟨c,Acs hd,?_⟩
  match c,hc,h,hd with
  | [],_,h,hd=>simp only [List.length_nil];exact h
  | [_],_,h,hd=>simp only [List.length_singleton];exact h
  | a::b::r,hc,h,hd=>
   rw [if_neg (by simp;omega)];refine ⟨a,by simp [lget],?_⟩;simp only [Abr] at h
   split
   ·rename_i h1;rw [if_pos h1] at h;exact h
   ·rename_i h1;rw [if_neg h1] at h;refine inner (hb.2 _ hc) (a::b::r) 0 seen (-1) rfl hs (by omega) ?_;cases ho:Abo x0.Rows (-1) seen (a::b::r) with
    | none=>rw [ho] at h;exact h
    | some s=>
     rw [ho] at h;simp only at h ⊢;rw [Aa3 (by have:=hb.1;unfold Big at this;omega)];exact outer hb cs (k+1) s a (Aao hd) (by rw [Akl ho];exact hs) h
theorem spec {x0:api_Partition} (hb:Ahs x0):C x0 (Ac8 x0):=by
 obtain ⟨r,h1,h2⟩:=enter x0 (fun r=>r=Ac8 x0) (by
  unfold Ac8
  split
  ·rfl
  ·split
   ·rfl
   ·refine ⟨by omega,?_⟩
    exact outer hb x0.Classes 0 _ (-1) rfl (by simp;omega) rfl)
 rw [← h1];exact h2
end q53_
end Go.Own
namespace Go.Own
open Go.Proofs D
set_option maxRecDepth 100000
set_option maxHeartbeats 4000000
namespace q38_
noncomputable def B:Code:=(Tryz.f81.body).getD .skip
def W:List Nat:=[0,1,2,3,4,5,6,8,9,14,39]
def res (r:Bool):D×List D:=(.lit (.bool r),[])
def C (x0:api_Table) (x1 x2:api_Row) (x3:Int) (r:Bool):Prop:=Ret env 81 [.agg [.lit (.string x0.Name),.sl (x0.Attrs.map eS),.sl (x0.Rows.map Aa2)],.agg [.lit (.int .i64 x1.ID),.sl (x1.Values.map Aa1)],.agg [.lit (.int .i64 x2.ID),.sl (x2.Values.map Aa1)],.lit (.int .u32 x3)] (res r).1 (res r).2
def L1 (x0:api_Table) (x1 x2:api_Row) (x3 z0:Int) (φ:Bool->Prop):Prop:=Pt env 81 W B [1,0,1,0] [(0,.agg [.lit (.string x0.Name),.sl (x0.Attrs.map eS),.sl (x0.Rows.map Aa2)]),(1,.agg [.lit (.int .i64 x1.ID),.sl (x1.Values.map Aa1)]),(2,.agg [.lit (.int .i64 x2.ID),.sl (x2.Values.map Aa1)]),(3,.lit (.int .u32 x3)),(4,.box [.lit (.string x0.Name),.sl (x0.Attrs.map eS),.sl (x0.Rows.map Aa2)]),(5,.box [.lit (.int .i64 x1.ID),.sl (x1.Values.map Aa1)]),(6,.box [.lit (.int .i64 x2.ID),.sl (x2.Values.map Aa1)]),(9,.lit (.int .i64 z0))] (Lv env 81 Tryz.f81 4 res φ)
def L2 (x0:api_Table) (x1 x2:api_Row) (x3 z0:Int) (φ:Bool->Prop):Prop:=Pt env 81 W B [1,0,1,0,0,1,1] [(0,.agg [.lit (.string x0.Name),.sl (x0.Attrs.map eS),.sl (x0.Rows.map Aa2)]),(1,.agg [.lit (.int .i64 x1.ID),.sl (x1.Values.map Aa1)]),(2,.agg [.lit (.int .i64 x2.ID),.sl (x2.Values.map Aa1)]),(3,.lit (.int .u32 x3)),(4,.box [.lit (.string x0.Name),.sl (x0.Attrs.map eS),.sl (x0.Rows.map Aa2)]),(5,.box [.lit (.int .i64 x1.ID),.sl (x1.Values.map Aa1)]),(6,.box [.lit (.int .i64 x2.ID),.sl (x2.Values.map Aa1)]),(9,.lit (.int .i64 z0))] (Lv env 81 Tryz.f81 4 res φ)
theorem L1_step (x0:api_Table) (x1 x2:api_Row) (x3 z0:Int) (φ:Bool->Prop) (h :
 (if z0<(x0.Rows.length:Int) then
 ∃ a1,lget x0.Rows z0=some a1 /\
 ∃ r3:Bool,q35_.C a1 x1 x3 r3 /\
 (if r3=true then
 ∃ r4:Int,q50_.C ((x0.Attrs.length:Int)) r4 /\
 ∃ r5:Bool,q35_.C a1 x2 ((Akp .u32 r4 x3)) r5 /\
 (if r5=true then
 φ true
 else
 q38_.L2 x0 x1 x2 x3 z0 φ)
 else
 q38_.L2 x0 x1 x2 x3 z0 φ)
 else
 φ false)):L1 x0 x1 x2 x3 z0 φ:=
 mIn <|
 mLen 5 Aa2 x0.Rows <|
 mAsk 0 h dT dF (fun h=>
 mIx 7 Aa2 h fun a1 h2 h=>
 Aaw 3 h (fun _ h=>h) (fun _ h=>
 mIxf 4 Aa2 h2 <|
 mLen 4 eS x0.Attrs <|
 mLo 0 h (fun _ h=>h) fun r4 _ h=>
 Aaw (A:=fun _=>φ true) 2 h (fun _ h=>h) (fun _ h=>
 mRet 6 h) fun _ h=>
 mFin 4 h) fun _ h=>
 mFin 18 h) fun h=>
 mRet 6 h
theorem L2_step (x0:api_Table) (x1 x2:api_Row) (x3 z0:Int) (φ:Bool->Prop) (h :
 q38_.L1 x0 x1 x2 x3 ((IntKind.wrap .i64 (z0+1))) φ):L2 x0 x1 x2 x3 z0 φ:=
 mIn <|
 mFin 5 h
theorem enter (x0:api_Table) (x1 x2:api_Row) (x3:Int) (φ:Bool->Prop) (h :
 q38_.L1 x0 x1 x2 x3 0 φ):∃ r,φ r/\C x0 x1 x2 x3 r:=
 mEnt (fd:=Tryz.f81) (body:=B) (V:=W) (res:=res) <|
 mFin 9 h
end q38_
namespace q39_
noncomputable def B:Code:=(Tryz.f40.body).getD .skip
def W:List Nat:=[0,1,2,3,4,5,6,7,8,9,10,14,26,36,43,74]
def res (r:Bool×Int):D×List D:=(.tup [.lit (.bool r.1),.lit (.int .i64 r.2)],[])
def C (x0:api_Table) (x1:api_MVD) (r:Bool×Int):Prop:=Ret env 40 [.agg [.lit (.string x0.Name),.sl (x0.Attrs.map eS),.sl (x0.Rows.map Aa2)],.agg [.lit (.int .u32 x1.Lhs),.lit (.int .u32 x1.Rhs)]] (res r).1 (res r).2
def L1 (x0:api_Table) (x1:api_MVD) (z0:Int) (φ:Bool×Int->Prop):Prop:=Pt env 40 W B [1,1,1,1,1,0,1,0] [(0,.agg [.lit (.string x0.Name),.sl (x0.Attrs.map eS),.sl (x0.Rows.map Aa2)]),(1,.agg [.lit (.int .u32 x1.Lhs),.lit (.int .u32 x1.Rhs)]),(2,.box [.lit (.string x0.Name),.sl (x0.Attrs.map eS),.sl (x0.Rows.map Aa2)]),(3,.box [.lit (.int .u32 x1.Lhs),.lit (.int .u32 x1.Rhs)]),(8,.lit (.int .u32 ((bOr .u32 x1.Lhs x1.Rhs)))),(9,.lit (.int .i64 z0))] (Lv env 40 Tryz.f40 2 res φ)
def L2 (x0:api_Table) (x1:api_MVD) (z0 z1:Int) (φ:Bool×Int->Prop):Prop:=Pt env 40 W B [1,1,1,1,1,0,1,0,0,1,0,0,1,0] [(0,.agg [.lit (.string x0.Name),.sl (x0.Attrs.map eS),.sl (x0.Rows.map Aa2)]),(1,.agg [.lit (.int .u32 x1.Lhs),.lit (.int .u32 x1.Rhs)]),(2,.box [.lit (.string x0.Name),.sl (x0.Attrs.map eS),.sl (x0.Rows.map Aa2)]),(3,.box [.lit (.int .u32 x1.Lhs),.lit (.int .u32 x1.Rhs)]),(8,.lit (.int .u32 ((bOr .u32 x1.Lhs x1.Rhs)))),(9,.lit (.int .i64 z0)),(10,.lit (.int .i64 z1))] (Lv env 40 Tryz.f40 2 res φ)
def L3 (x0:api_Table) (x1:api_MVD) (z0 z1:Int) (φ:Bool×Int->Prop):Prop:=Pt env 40 W B [1,1,1,1,1,0,1,0,0,1,0,0,1,0,0,1,1] [(0,.agg [.lit (.string x0.Name),.sl (x0.Attrs.map eS),.sl (x0.Rows.map Aa2)]),(1,.agg [.lit (.int .u32 x1.Lhs),.lit (.int .u32 x1.Rhs)]),(2,.box [.lit (.string x0.Name),.sl (x0.Attrs.map eS),.sl (x0.Rows.map Aa2)]),(3,.box [.lit (.int .u32 x1.Lhs),.lit (.int .u32 x1.Rhs)]),(8,.lit (.int .u32 ((bOr .u32 x1.Lhs x1.Rhs)))),(9,.lit (.int .i64 z0)),(10,.lit (.int .i64 z1))] (Lv env 40 Tryz.f40 2 res φ)
theorem L1_step (x0:api_Table) (x1:api_MVD) (z0:Int) (φ:Bool×Int->Prop) (h :
 (if z0<(x0.Rows.length:Int) then
 q39_.L2 x0 x1 z0 0 φ
 else
 φ ((true,0)))):L1 x0 x1 z0 φ:=
 mIn <|
 mLen 5 Aa2 x0.Rows <|
 mAsk 0 h dT dF (fun h=>
 mFin 6 h) fun h=>
 mRet 7 h
theorem L2_step (x0:api_Table) (x1:api_MVD) (z0 z1:Int) (φ:Bool×Int->Prop) (h :
 (if z1<(x0.Rows.length:Int) then
 ∃ a3,lget x0.Rows z0=some a3 /\
 ∃ a5,lget x0.Rows z1=some a5 /\
 ∃ r7:Bool,q35_.C a3 a5 x1.Lhs r7 /\
 (if r7=true then
 ∃ r8:Bool,q38_.C x0 a3 a5 ((bOr .u32 x1.Lhs x1.Rhs)) r8 /\
 (if r8=true then
 q39_.L3 x0 x1 z0 z1 φ
 else
 φ ((false,0)))
 else
 q39_.L3 x0 x1 z0 z1 φ)
 else
 q39_.L1 x0 x1 ((IntKind.wrap .i64 (z0+1))) φ)):L2 x0 x1 z0 z1 φ:=
 mIn <|
 mLen 5 Aa2 x0.Rows <|
 mAsk 0 h dT dF (fun h=>
 mIx 7 Aa2 h fun a3 h4 h=>
 mIx 4 Aa2 h fun a5 h6 h=>
 Aaw 3 h (fun _ h=>h) (fun _ h=>
 mIxf 5 Aa2 h4 <|
 mIxf 4 Aa2 h6 <|
 Aaw 2 h (fun _ h=>h) (fun _ h=>
 mFin 5 h) fun _ h=>
 mRet 8 h) fun _ h=>
 mFin 19 h) fun h=>
 mFin 8 h
theorem L3_step (x0:api_Table) (x1:api_MVD) (z0 z1:Int) (φ:Bool×Int->Prop) (h :
 q39_.L2 x0 x1 z0 ((IntKind.wrap .i64 (z1+1))) φ):L3 x0 x1 z0 z1 φ:=
 mIn <|
 mFin 5 h
theorem enter (x0:api_Table) (x1:api_MVD) (φ:Bool×Int->Prop) (h :
 ∃ r1:Int,q33_.C x0 r1 /\
 (if r1=0 then
 ∃ r2:Bool,q27_.C ((x0.Attrs.length:Int)) ((bOr .u32 x1.Lhs x1.Rhs)) r2 /\
 (if r2=true then
 q39_.L1 x0 x1 0 φ
 else
 φ ((false,1)))
 else
 φ ((false,r1)))):∃ r,φ r/\C x0 x1 r:=
 mEnt (fd:=Tryz.f40) (body:=B) (V:=W) (res:=res) <|
 mCal 8 h (fun _ h=>h) fun r1 _ h=>
 Adh 4 h Ad1 Ad0 (fun h=>
 mRet 7 h) fun h=>
 mLen 6 eS x0.Attrs <|
 Aaw 9 h (fun _ h=>h) (fun _ h=>
 mFin 15 h) fun _ h=>
 mRet 7 h
end q39_
end Go.Own
namespace Go.Own
def free:List Bool->Nat
 | []=>0
 | b::l=>(if b then 0 else 1)+free l
theorem Asc (n:Nat):free (List.replicate n false)=n:=by
 induction n with
 | zero=>rfl
 | succ n ih=>simp only [List.replicate_succ,free,ih];simp;omega
theorem Avt:∀ {l:List Bool} {n:Nat},l[n]? = some false->free (l.set n true)+1=free l
 | [],n,h=>by simp at h
 | b::l,0,h=>by simp at h;subst h;simp [free];omega
 | b::l,n+1,h=>by
  simp only [List.getElem?_cons_succ] at h;have:=Avt h;simp only [List.set_cons_succ,free];omega
theorem Bbc {l:List Bool} {i:Int} (h:lget l i=some false):free (lset l i true)+1=free l:=Avt (Abq h).2
theorem Ap6 {rows:Int}:∀ {r:List Int} {i b:Int} {s s':List Bool},-1<=b->(s.length:Int)=rows->Abo rows b s (i::r)=some s'->b<i/\i<rows/\lget s i=some false/\Abo rows i (lset s i true) r=some s':=by
 intro r i b s s' hb hs h;simp only [Abo] at h
 split at h
 ·cases h
 ·rename_i h1;simp only [not_or] at h1;obtain ⟨x,hx⟩:=Agb (l:=s) (i:=i) (by omega) (by omega);refine ⟨by omega,by omega,?_,h⟩;rw [hx] at h1 ⊢;cases x with
  | true=>exact absurd rfl h1.2.2
  | false=>rfl
theorem Anb {rows:Int}:∀ {r:List Int} {b:Int} {s s':List Bool},-1<=b->(s.length:Int)=rows->Abo rows b s r=some s'->free s'+r.length=free s
 | [],b,s,s',hb,hs,h=>by simp [Abo] at h;simp [h]
 | i::r,b,s,s',hb,hs,h=>by
  obtain ⟨h1,h2,h3,h4⟩:=Ap6 hb hs h;have:=Anb (by omega) (by rw [Abm];exact hs) h4;have h5:=Bbc h3;simp only [List.length_cons];omega
def Agn:List (List Int)->Int
 | []=>0
 | c::cs=>((c.length:Int)-1)+Agn cs
theorem Amc {rows first:Int} {s:List Bool} {c:List Int} {cs:List (List Int)} (h:Abr rows first s (c::cs)=true):∃ a b r s',c=a::b::r/\first<a/\Abo rows (-1) s c=some s'/\Abr rows a s' cs=true:=by
 match c,h with
 | [],h=>simp [Abr] at h
 | [_],h=>simp [Abr] at h
 | a::b::r,h=>
  simp only [Abr] at h
  split at h
  ·cases h
  ·rename_i h1;cases ho:Abo rows (-1) s (a::b::r) with
   | none=>rw [ho] at h;cases h
   | some s'=>rw [ho] at h;exact ⟨a,b,r,s',rfl,by omega,rfl,h⟩
theorem Aqg {rows:Int}:∀ {cs:List (List Int)} {first:Int} {s:List Bool},(s.length:Int)=rows->Abr rows first s cs=true->0<=Agn cs/\Agn cs<=free s
 | [],_,_,_,_=>by simp [Agn]
 | c::cs,first,s,hs,h=>by
  obtain ⟨a,b,r,s',hc,h1,h2,h3⟩:=Amc h;have h4:=Anb (by omega) hs h2;have h5:=Aqg (by rw [Akl h2];exact hs) h3;subst hc;simp only [Agn,List.length_cons] at h4 ⊢;omega
theorem Ax0 {p:api_Partition} (h:Ac8 p=true):0<=p.Rows/\p.Rows<=1000/\Abr p.Rows (-1) (List.replicate p.Rows.toNat false) p.Classes=true:=by
 unfold Ac8 at h
 split at h
 ·cases h
 ·split at h
  ·cases h
  ·exact ⟨by omega,by omega,h⟩
def Af2 (a:Int):List Int->List Int->List Int
 | l,[]=>l
 | l,i::r=>Af2 a (lset l i a) r
theorem Ac7 {a:Int}:∀ {l r:List Int},(Af2 a l r).length=l.length
 | _,[]=>rfl
 | l,i::r=>by simp only [Af2];rw [Ac7,Abm]
def Ak5 (s:List Bool) (r:List Int):List Bool:=r.foldl (fun s i=>lset s i true) s
theorem An6:∀ {r:List Int} {s:List Bool},(Ak5 s r).length=s.length
 | [],_=>rfl
 | i::r,s=>by
  show (Ak5 (lset s i true) r).length=_;rw [An6,Abm]
theorem An5:∀ {r:List Int} {s:List Bool} {j:Int},(∀ i∈r,0<=i/\i<s.length)->0<=j->j<s.length->lget (Ak5 s r) j=if j∈r then some true else lget s j
 | [],_,_,_,_,_=>by simp [Ak5]
 | i::r,s,j,h,hj,hjs=>by
  show lget (Ak5 (lset s i true) r) j=_;have hi:=h i (by simp);rw [An5 (fun k hk=>by rw [Abm];exact h k (by simp [hk])) hj (by rw [Abm];exact hjs)];by_cases h1:j∈r
  ·simp [h1]
  ·rw [if_neg h1,Ak2 hi.1 hj];by_cases h2:i=j
   ·subst h2;simp [hi.2]
   ·rw [if_neg h2,if_neg];simp only [List.mem_cons,not_or];exact ⟨fun h=>h2 h.symm,h1⟩
theorem Ahy {rows:Int}:∀ {r:List Int} {b:Int} {s s':List Bool},-1<=b->(s.length:Int)=rows->(Abo rows b s r=some s'↔(b::r).Pairwise (·<·)/\(∀ i∈r,i<rows/\lget s i=some false)/\s'=Ak5 s r)
 | [],b,s,s',hb,hs=>by simp [Abo,Ak5,eq_comm]
 | i::r,b,s,s',hb,hs=>by
  constructor
  ·intro h;obtain ⟨h1,h2,h3,h4⟩:=Ap6 hb hs h;obtain ⟨k1,k2,k3⟩:=(Ahy (by omega) (by rw [Abm];exact hs)).1 h4;have k4:=List.pairwise_cons.1 k1;refine ⟨List.pairwise_cons.2 ⟨fun j hj=>?_,k1⟩,fun j hj=>?_,k3⟩
   ·rcases List.mem_cons.1 hj with rfl | hj
    ·exact h1
    ·have:=k4.1 j hj;omega
   ·rcases List.mem_cons.1 hj with rfl | hj
    ·exact ⟨h2,h3⟩
    ·have h5:=k4.1 j hj;have h6:=k2 j hj;rw [Ak2 (by omega) (by omega),if_neg (by omega)] at h6;exact h6
  ·rintro ⟨h1,h2,h3⟩;have k1:=List.pairwise_cons.1 h1;have k2:=List.pairwise_cons.1 k1.2;have hbi:=k1.1 i (by simp);have hi:=h2 i (by simp);simp only [Abo];rw [if_neg (by
    rintro (h | h | h)
    ·omega
    ·omega
    ·rw [hi.2] at h;cases h)]
   refine (Ahy (by omega) (by rw [Abm];exact hs)).2 ⟨k1.2,fun j hj=>?_,h3⟩;have h5:=k2.1 j hj;rw [Ak2 (by omega) (by omega),if_neg (by omega)];exact h2 j (by simp [hj])
structure CP (rows:Int) (cs:List (List Int)):Prop where
 two:∀ c∈cs,2<=c.length
 inc:∀ c∈cs,c.Pairwise (·<·)
 inn:∀ c∈cs,∀ i∈c,0<=i/\i<rows
 heads:cs.Pairwise fun c d=>c.headD 0<d.headD 0
 disj:cs.Pairwise fun c d=>∀ i∈c,i ∉ d
theorem Afy {rows:Int}:∀ {cs:List (List Int)} {first:Int} {s:List Bool},-1<=first->(s.length:Int)=rows->(Abr rows first s cs=true↔CP rows cs/\(∀ c∈cs,first<c.headD 0)/\∀ c∈cs,∀ i∈c,lget s i=some false)
 | [],first,s,hf,hs=>by
  simp only [Abr,true_iff];exact ⟨⟨by simp,by simp,by simp,by simp,by simp⟩,by simp,by simp⟩
 | c::cs,first,s,hf,hs=>by
  constructor
  ·intro h;obtain ⟨a,b,t,s',hc,h1,h2,h3⟩:=Amc h;obtain ⟨m1,m2,m3⟩:=(Ahy (by omega) hs).1 h2;have hin:∀ i∈c,0<=i/\i<rows:=fun i hi=>by
    have:=(List.pairwise_cons.1 m1).1 i hi;exact ⟨by omega,(m2 i hi).1⟩
   have hs':(s'.length:Int)=rows:=by rw [m3,An6];exact hs
   have ha:0<=a:=(hin a (by rw [hc];simp)).1;obtain ⟨n1,n2,n3⟩:=(Afy (by omega) hs').1 h3;have key:∀ d∈cs,∀ i∈d,i ∉ c/\lget s i=some false:=fun d hd i hi=>by
    have h5:=n3 d hd i hi;have h6:=n1.inn d hd i hi;rw [m3,An5 (fun k hk=>by have:=hin k hk;omega) h6.1 (by omega)] at h5;by_cases hic:i∈c
    ·rw [if_pos hic] at h5;cases h5
    ·rw [if_neg hic] at h5;exact ⟨hic,h5⟩
   refine ⟨⟨?_,?_,?_,?_,?_⟩,?_,?_⟩
   ·intro d hd;rcases List.mem_cons.1 hd with rfl | hd
    ·rw [hc];simp
    ·exact n1.two d hd
   ·intro d hd;rcases List.mem_cons.1 hd with rfl | hd
    ·exact (List.pairwise_cons.1 m1).2
    ·exact n1.inc d hd
   ·intro d hd;rcases List.mem_cons.1 hd with rfl | hd
    ·exact hin
    ·exact n1.inn d hd
   ·refine List.pairwise_cons.2 ⟨fun d hd=>?_,n1.heads⟩;have:=n2 d hd;rw [hc];exact this
   ·exact List.pairwise_cons.2 ⟨fun d hd i hi hid=>(key d hd i hid).1 hi,n1.disj⟩
   ·intro d hd;rcases List.mem_cons.1 hd with rfl | hd
    ·rw [hc];exact h1
    ·have:=n2 d hd;omega
   ·intro d hd i hi;rcases List.mem_cons.1 hd with rfl | hd
    ·exact (m2 i hi).2
    ·exact (key d hd i hi).2
  ·rintro ⟨⟨p1,p2,p3,p4,p5⟩,q1,q2⟩
   match c,p1 c (by simp),p1,p2,p3,p4,p5,q1,q2 with
   | a::b::t,_,p1,p2,p3,p4,p5,q1,q2=>
    have ho:Abo rows (-1) s (a::b::t)=some (Ak5 s (a::b::t)):=(Ahy (by omega) hs).2 ⟨List.pairwise_cons.2 ⟨fun i hi=>by have:=(p3 _ (by simp) i hi).1;omega,p2 _ (by simp)⟩,fun i hi=>⟨(p3 _ (by simp) i hi).2,q2 _ (by simp) i hi⟩,rfl⟩;have ha:=p3 (a::b::t) (by simp) a (by simp);simp only [Abr];rw [if_neg (by have:=q1 (a::b::t) (by simp);simp at this;omega),ho];refine (Afy (by omega) (by rw [An6];exact hs)).2 ⟨⟨fun d hd=>p1 d (by simp [hd]),fun d hd=>p2 d (by simp [hd]),fun d hd=>p3 d (by simp [hd]),(List.pairwise_cons.1 p4).2,(List.pairwise_cons.1 p5).2⟩,fun d hd=>?_,fun d hd i hi=>?_⟩
    ·exact (List.pairwise_cons.1 p4).1 d hd
    ·have h6:=p3 d (by simp [hd]) i hi;rw [An5 (fun k hk=>by have:=p3 (a::b::t) (by simp) k hk;omega) h6.1 (by omega),if_neg]
     ·exact q2 d (by simp [hd]) i hi
     ·exact fun hic=>(List.pairwise_cons.1 p5).1 d hd i hic hi
theorem Af9 {p:api_Partition}:Ac8 p=true↔0<=p.Rows/\p.Rows<=1000/\CP p.Rows p.Classes:=by
 constructor
 ·intro h;obtain ⟨h1,h2,h3⟩:=Ax0 h;exact ⟨h1,h2,((Afy (by omega) (by simp;omega)).1 h3).1⟩
 ·rintro ⟨h1,h2,h3⟩;unfold Ac8;rw [if_neg (by omega),if_neg (by omega)];refine (Afy (by omega) (by simp;omega)).2 ⟨h3,fun c hc=>?_,fun c hc i hi=>?_⟩
  ·have h4:=h3.two c hc
   match c,h4,hc with
   | a::t,_,hc=>have:=h3.inn _ hc a (by simp);simp;omega
  ·have:=h3.inn c hc i hi;simp only [lget,if_pos this.1,List.getElem?_replicate];rw [if_pos (by omega)]
def Same (p:api_Partition) (i j:Int):Prop:=i=j∨∃ c∈p.Classes,i∈c/\j∈c
theorem Aj9 {a:Int}:∀ {r:List Int} {l:List Int} {j:Int},(∀ i∈r,0<=i/\i<l.length)->0<=j->j<l.length->lget (Af2 a l r) j=if j∈r then some a else lget l j
 | [],_,_,_,_,_=>by simp [Af2]
 | i::r,l,j,h,hj,hjl=>by
  have hi:=h i (by simp);simp only [Af2];rw [Aj9 (fun k hk=>by rw [Abm];exact h k (by simp [hk])) hj (by rw [Abm];exact hjl)];by_cases h1:j∈r
  ·simp [h1]
  ·rw [if_neg h1,Ak2 hi.1 hj];by_cases h2:i=j
   ·subst h2;simp [hi.2]
   ·rw [if_neg h2,if_neg];simp only [List.mem_cons,not_or];exact ⟨fun h=>h2 h.symm,h1⟩
def Agv:List (Int×List Int)->List Int->List Int
 | [],l=>l
 | (a,c)::r,l=>Agv r (Af2 a l c)
theorem Ar2:∀ {r:List (Int×List Int)} {l:List Int},(Agv r l).length=l.length
 | [],_=>rfl
 | (a,c)::r,l=>by simp only [Agv];rw [Ar2,Ac7]
theorem Alx:∀ {r:List (Int×List Int)} {l:List Int} {j:Int},(∀ x∈r,∀ i∈x.2,0<=i/\i<l.length)->0<=j->j<l.length->(∀ x∈r,j ∉ x.2)->lget (Agv r l) j=lget l j
 | [],_,_,_,_,_,_=>rfl
 | (a,c)::r,l,j,h,hj,hjl,hn=>by
  simp only [Agv];rw [Alx (fun x hx=>by rw [Ac7];exact h x (by simp [hx])) hj (by rw [Ac7];exact hjl) (fun x hx=>hn x (by simp [hx])),Aj9 (h (a,c) (by simp)) hj hjl,if_neg (hn (a,c) (by simp))]
theorem Aty:∀ {r:List (Int×List Int)} {l:List Int} {j:Int} {x:Int×List Int},(∀ x∈r,∀ i∈x.2,0<=i/\i<l.length)->0<=j->j<l.length->r.Pairwise (fun x y=>∀ i∈x.2,i ∉ y.2)->x∈r->j∈x.2->lget (Agv r l) j=some x.1
 | [],_,_,_,_,_,_,_,hx,_=>by cases hx
 | (a,c)::r,l,j,x,h,hj,hjl,hp,hx,hjx=>by
  simp only [Agv];have hp':=List.pairwise_cons.1 hp;rcases List.mem_cons.1 hx with rfl | hx
  ·rw [Alx (fun x hx=>by rw [Ac7];exact h x (by simp [hx])) hj (by rw [Ac7];exact hjl) (fun y hy=>hp'.1 y hy j hjx),Aj9 (h (a,c) (by simp)) hj hjl,if_pos hjx]
  ·exact Aty (fun x hx=>by rw [Ac7];exact h x (by simp [hx])) hj (by rw [Ac7];exact hjl) hp'.2 hx hjx
theorem Bbi {c:List Int} (h:2<=c.length):c.headD 0∈c:=by
 match c,h with
 | a::t,_=>simp
end Go.Own
namespace Go.Own
open Go.Proofs D
set_option maxRecDepth 100000
set_option maxHeartbeats 4000000
namespace q40_
noncomputable def B:Code:=(Tryz.f111.body).getD .skip
def W:List Nat:=[0,1,2,3,4,5,6,8,13,14,15,24,25,26,27,31,32,33,34]
def res (r:List Int):D×List D:=(.own (r.map (eI .i64)),[])
def C (x0:api_Partition) (r:List Int):Prop:=Ret env 111 [.agg [.lit (.int .i64 x0.Rows),.sl (x0.Classes.map (eSl (eI .i64)))]] (res r).1 (res r).2
def L1 (x0:api_Partition) (z0:List Int) (z1:Int) (φ:List Int->Prop):Prop:=Pt env 111 W B [1,1,0,1,0] [(0,.agg [.lit (.int .i64 x0.Rows),.sl (x0.Classes.map (eSl (eI .i64)))]),(1,.box [.lit (.int .i64 x0.Rows),.sl (x0.Classes.map (eSl (eI .i64)))]),(3,.own (z0.map (eI .i64))),(13,.lit (.int .i64 (((List.replicate x0.Rows.toNat (0:Int)).length:Int)))),(14,.lit (.int .i64 z1))] (Lv env 111 Tryz.f111 1 res φ)
def L2 (x0:api_Partition) (z0:List Int) (z1:Int) (φ:List Int->Prop):Prop:=Pt env 111 W B [1,1,1,0,1,0] [(0,.agg [.lit (.int .i64 x0.Rows),.sl (x0.Classes.map (eSl (eI .i64)))]),(1,.box [.lit (.int .i64 x0.Rows),.sl (x0.Classes.map (eSl (eI .i64)))]),(3,.own (z0.map (eI .i64))),(24,.sl (x0.Classes.map (eSl (eI .i64)))),(25,.lit (.int .i64 ((x0.Classes.length:Int)))),(26,.lit (.int .i64 z1))] (Lv env 111 Tryz.f111 1 res φ)
def L3 (x0:api_Partition) (z0:List Int) (z1:Int) (a4:List Int) (z2 z3:Int) (φ:List Int->Prop):Prop:=Pt env 111 W B [1,1,1,0,1,0,0,1,1,0,0,1,1,0] [(0,.agg [.lit (.int .i64 x0.Rows),.sl (x0.Classes.map (eSl (eI .i64)))]),(1,.box [.lit (.int .i64 x0.Rows),.sl (x0.Classes.map (eSl (eI .i64)))]),(3,.own (z0.map (eI .i64))),(5,.lit (.int .i64 z1)),(6,.sl (a4.map (eI .i64))),(24,.sl (x0.Classes.map (eSl (eI .i64)))),(25,.lit (.int .i64 ((x0.Classes.length:Int)))),(26,.lit (.int .i64 z2)),(31,.sl (a4.map (eI .i64))),(32,.lit (.int .i64 ((a4.length:Int)))),(33,.lit (.int .i64 z3))] (Lv env 111 Tryz.f111 1 res φ)
theorem L1_step (x0:api_Partition) (z0:List Int) (z1:Int) (φ:List Int->Prop) (h :
 (if z1<((List.replicate x0.Rows.toNat (0:Int)).length:Int) then
 ∃ a2,lget z0 z1=some a2 /\
 q40_.L1 x0 ((lset z0 z1 (IntKind.wrap .i64 ((-1)-z1)))) ((IntKind.wrap .i64 (z1+1))) φ
 else
 q40_.L2 x0 z0 0 φ)):L1 x0 z0 z1 φ:=
 mIn <|
 mAsk 2 h dT dF (fun h=>
 mIy 12 (eI .i64) h fun a2 h3 h=>
 mSto 0 (eI .i64) ((IntKind.wrap .i64 ((-1)-z1))) h3 <|
 mFin 5 h) fun h=>
 mLen 6 (eSl (eI .i64)) x0.Classes <|
 mFin 2 h
theorem L2_step (x0:api_Partition) (z0:List Int) (z1:Int) (φ:List Int->Prop) (h :
 (if z1<(x0.Classes.length:Int) then
 ∃ a4,lget x0.Classes z1=some a4 /\
 q40_.L3 x0 z0 z1 a4 z1 0 φ
 else
 φ z0)):L2 x0 z0 z1 φ:=
 mIn <|
 mAsk 2 h dT dF (fun h=>
 mIx 5 (eSl (eI .i64)) h fun a4 h5 h=>
 mLen 6 (eI .i64) a4 <|
 mFin 2 h) fun h=>
 mRet 7 h
theorem L3_step (x0:api_Partition) (z0:List Int) (z1:Int) (a4:List Int) (z2 z3:Int) (φ:List Int->Prop) (h :
 (if z3<(a4.length:Int) then
 ∃ a6,lget a4 z3=some a6 /\
 ∃ a8,lget z0 a6=some a8 /\
 q40_.L3 x0 ((lset z0 a6 z1)) z1 a4 z2 ((IntKind.wrap .i64 (z3+1))) φ
 else
 q40_.L2 x0 z0 ((IntKind.wrap .i64 (z2+1))) φ)):L3 x0 z0 z1 a4 z2 z3 φ:=
 mIn <|
 mAsk 2 h dT dF (fun h=>
 mIx 4 (eI .i64) h fun a6 h7 h=>
 mIy 7 (eI .i64) h fun a8 h9 h=>
 mSto 0 (eI .i64) z1 h9 <|
 mFin 5 h) fun h=>
 mFin 7 h
theorem enter (x0:api_Partition) (φ:List Int->Prop) (h :
 (0<=x0.Rows/\x0.Rows*8<=281474976710656) /\
 q40_.L1 x0 ((List.replicate x0.Rows.toNat (0:Int))) 0 φ):∃ r,φ r/\C x0 r:=
 mEnt (fd:=Tryz.f111) (body:=B) (V:=W) (res:=res) <|
 h.elim fun h1 h=>
 mVl 7 (Aq1 (t:=92) (x:=(.tmp 10)) (y:=(.tmp 10)) (q:=.i64) (i:=x0.Rows) (et:=3) (z:=.lit (.int .i64 0)) (e:=(eI .i64)) (a:=(0:Int)) (k:=8) (by kernel_rfl) (by kernel_rfl) (by kernel_rfl) (by kernel_rfl) (by kernel_rfl) (by kernel_rfl) (by kernel_rfl) (by kernel_rfl) (by kernel_rfl) (by kernel_rfl) h1.1 h1.2) <|
 mLen 4 (eI .i64) ((List.replicate x0.Rows.toNat (0:Int))) <|
 mFin 2 h
end q40_
namespace q58_
noncomputable def B:Code:=(Tryz.f110.body).getD .skip
def W:List Nat:=[0,1,2,3,4,12,17]
def res (r:Int):D×List D:=(.lit (.int .i64 r),[])
def C (x0 x1:api_Partition) (r:Int):Prop:=Ret env 110 [.agg [.lit (.int .i64 x0.Rows),.sl (x0.Classes.map (eSl (eI .i64)))],.agg [.lit (.int .i64 x1.Rows),.sl (x1.Classes.map (eSl (eI .i64)))]] (res r).1 (res r).2
theorem enter (x0 x1:api_Partition) (φ:Int->Prop) (h :
 ∃ r1:Bool,q53_.C x0 r1 /\
 (if r1=true then
 ∃ r2:Bool,q53_.C x1 r2 /\
 (if r2=true then
 (if x0.Rows=x1.Rows then
 φ 0
 else
 φ 6)
 else
 φ 1)
 else
 φ 1)):∃ r,φ r/\C x0 x1 r:=
 mEnt (fd:=Tryz.f110) (body:=B) (V:=W) (res:=res) <|
 Aaw 7 h (fun _ h=>h) (fun _ h=>
 Aaw 3 h (fun _ h=>h) (fun _ h=>
 Adh 10 h Ad1 Ad0 (fun h=>
 mRet 5 h) fun h=>
 mRet 6 h) fun _ h=>
 mRet 7 h) fun _ h=>
 mRet 11 h
end q58_
end Go.Own
namespace Go.Own
def negs (n:Nat):List Int:=(List.range n).map fun (k:Nat)=>-1-(k:Int)
theorem Bds {n k:Nat} (h:k<n):(negs n)[k]? = some (-1-(k:Int)):=by simp [negs,h]
theorem Ag2 {n:Nat}:(negs n).length=n:=by simp [negs]
def idx:Nat->List (List Int)->List (Int×List Int)
 | _,[]=>[]
 | k,c::cs=>((k:Int),c)::idx (k+1) cs
theorem Ag8:∀ {cs:List (List Int)} {k:Nat} {x:Int×List Int},x∈idx k cs->∃ n:Nat,k<=n/\x.1=(n:Int)/\cs[n-k]? = some x.2
 | [],_,_,h=>by cases h
 | c::cs,k,x,h=>by
  rcases List.mem_cons.1 h with rfl | h
  ·exact ⟨k,by omega,rfl,by simp⟩
  ·obtain ⟨n,h1,h2,h3⟩:=Ag8 h;refine ⟨n,by omega,h2,?_⟩;have:n-k=(n-(k+1))+1:=by omega
   rw [this,List.getElem?_cons_succ];exact h3
theorem Aw1:∀ {cs:List (List Int)} {k:Nat} {c:List Int},c∈cs->∃ n:Nat,((n:Int),c)∈idx k cs
 | [],_,_,h=>by cases h
 | d::cs,k,c,h=>by
  rcases List.mem_cons.1 h with rfl | h
  ·exact ⟨k,by simp [idx]⟩
  ·obtain ⟨n,hn⟩:=Aw1 (k:=k+1) h;exact ⟨n,by simp [idx,hn]⟩
theorem Ayd:∀ {cs:List (List Int)} {k:Nat},(idx k cs).map Prod.snd=cs
 | [],_=>rfl
 | c::cs,k=>by simp [idx,Ayd]
def labN (p:api_Partition):List Int:=Agv (idx 0 p.Classes) (negs p.Rows.toNat)
theorem Apt {p:api_Partition}:(labN p).length=p.Rows.toNat:=by unfold labN;rw [Ar2,Ag2]
namespace q40_
theorem fill {x0:api_Partition} {φ:List Int->Prop} (h0:0<=x0.Rows) (h1:x0.Rows<=1000) (hL:L2 x0 (negs x0.Rows.toNat) 0 φ):∀ (m k:Nat),k+m=x0.Rows.toNat->L1 x0 (negs k++List.replicate m 0) k φ
 | 0,k,hk=>by
  apply L1_step;rw [if_neg (by simp;omega)];have:k=x0.Rows.toNat:=by omega
  simpa [this] using hL
 | m+1,k,hk=>by
  apply L1_step;rw [if_pos (by simp;omega)];have hl:(negs k).length=k:=Ag2;refine ⟨0,?_,?_⟩
  ·rw [Acg,List.getElem?_append_right (by omega)];simp [hl]
  ·rw [Aa3 (by omega),Alb (by omega) (by omega)];have:lset (negs k++List.replicate (m+1) 0) (k:Int) (-1-(k:Int))=negs (k+1)++List.replicate m 0:=by
    unfold lset;rw [Int.toNat_natCast,List.set_append_right _ _ (by omega),hl,Nat.sub_self,List.replicate_succ,List.set_cons_zero];simp [negs,List.range_succ]
   rw [this];exact fill h0 h1 hL m (k+1) (by omega)
theorem inner {x0:api_Partition} {φ:List Int->Prop} {c:List Int} {a:Int} {j:Nat} (hb:c.length<Big) (hj:j+1<Big):∀ (r:List Int) (k:Nat) (l:List Int),c.drop k=r->(∀ i∈r,0<=i/\i<l.length) ->
  L2 x0 (Af2 a l r) ((j+1:Nat):Int) φ->L3 x0 l a c j k φ
 | [],k,l,hd,hin,h=>by
  apply L3_step;have:=Abs hd;rw [if_neg (by omega),Aa3 hj];exact h
 | i::r,k,l,hd,hin,h=>by
  apply L3_step;have hk:=Abt hd;have hi:=hin i (by simp);rw [if_pos (by omega)];obtain ⟨x,hx⟩:=Agb (l:=l) (i:=i) hi.1 hi.2;refine ⟨i,Acs hd,x,hx,?_⟩;rw [Aa3 (by unfold Big at hb;omega)];exact inner hb hj r (k+1) _ (Aao hd) (fun q hq=>by rw [Abm];exact hin q (by simp [hq])) h
theorem outer {x0:api_Partition} {φ:List Int->Prop} (hb:Ahs x0):∀ (cs:List (List Int)) (k:Nat) (l:List Int),x0.Classes.drop k=cs->(∀ c∈cs,∀ i∈c,0<=i/\i<l.length) ->
  φ (Agv (idx k cs) l)->L2 x0 l k φ
 | [],k,l,hd,hin,h=>by
  apply L2_step;have:=Abs hd;rw [if_neg (by omega)];exact h
 | c::cs,k,l,hd,hin,h=>by
  apply L2_step;have hk:=Abt hd;rw [if_pos (by omega)];have hcg:=Aax hd;refine ⟨c,Acs hd,?_⟩;refine inner (hb.2 _ (List.mem_of_getElem? hcg)) (by have:=hb.1;omega) c 0 l rfl (hin c (by simp)) ?_;exact outer hb cs (k+1) _ (Aao hd) (fun d hd i hi=>by rw [Ac7];exact hin d (by simp [hd]) i hi) h
theorem spec {x0:api_Partition} (hb:Ahs x0) (hv:Ac8 x0=true):C x0 (labN x0):=by
 obtain ⟨v1,v2,v3⟩:=Af9.1 hv;obtain ⟨r,h1,h2⟩:=enter x0 (fun r=>r=labN x0) (by
  refine ⟨by omega,?_⟩;have:=fill (φ:=fun r=>r=labN x0) v1 v2 (outer hb x0.Classes 0 _ rfl (fun c hc i hi=>by have:=v3.inn c hc i hi;rw [Ag2];omega) rfl) x0.Rows.toNat 0 (by omega)
  simpa [negs] using this)
 rw [← h1];exact h2
end q40_
theorem Apu {p:api_Partition} (hv:Ac8 p=true) {i:Int} (h0:0<=i) (h1:i<p.Rows) (hn:∀ c∈p.Classes,i ∉ c):lget (labN p) i=some (-1-i):=by
 obtain ⟨v1,v2,v3⟩:=Af9.1 hv;unfold labN;rw [Alx (fun x hx=>?_) h0 (by rw [Ag2];omega) (fun x hx=>?_)]
 ·simp only [lget,if_pos h0];rw [Bds (by omega)];congr 1;omega
 ·obtain ⟨n,_,_,h3⟩:=Ag8 hx;intro j hj;have:=v3.inn _ (List.mem_of_getElem? h3) j hj;rw [Ag2];omega
 ·obtain ⟨n,_,_,h3⟩:=Ag8 hx;exact hn _ (List.mem_of_getElem? h3)
theorem Akx {p:api_Partition} (hv:Ac8 p=true) {i:Int} {x:Int×List Int} (hc:x∈idx 0 p.Classes) (hi:i∈x.2):lget (labN p) i=some x.1:=by
 obtain ⟨v1,v2,v3⟩:=Af9.1 hv;obtain ⟨n,_,_,h3⟩:=Ag8 hc;have hin:=v3.inn _ (List.mem_of_getElem? h3) i hi;unfold labN;refine Aty (fun y hy=>?_) hin.1 (by rw [Ag2];omega) ?_ hc hi
 ·obtain ⟨n,_,_,h3⟩:=Ag8 hy;intro j hj;have:=v3.inn _ (List.mem_of_getElem? h3) j hj;rw [Ag2];omega
 ·have:=v3.disj;rw [← Ayd (cs:=p.Classes) (k:=0)] at this;exact List.pairwise_map.1 this
theorem Bbq {p:api_Partition} (hv:Ac8 p=true) {i j:Int} (hi:0<=i/\i<p.Rows) (hj:0<=j/\j<p.Rows):lget (labN p) i=lget (labN p) j↔Same p i j:=by
 obtain ⟨v1,v2,v3⟩:=Af9.1 hv;have inn:∀ {i:Int},(∃ c∈p.Classes,i∈c)->∃ x∈idx 0 p.Classes,i∈x.2:=by
  rintro i ⟨c,hc,hi⟩;obtain ⟨n,hn⟩:=Aw1 (k:=0) hc;exact ⟨_,hn,hi⟩
 constructor
 ·intro h;by_cases hic:∃ c∈p.Classes,i∈c
  ·obtain ⟨x,hx,hxi⟩:=inn hic;obtain ⟨n,_,e1,g1⟩:=Ag8 hx;rw [Akx hv hx hxi] at h;by_cases hjc:∃ d∈p.Classes,j∈d
   ·obtain ⟨y,hy,hyj⟩:=inn hjc;obtain ⟨m,_,e2,g2⟩:=Ag8 hy;rw [Akx hv hy hyj] at h;have h2:=Option.some.inj h;have:n=m:=by omega
    subst this;rw [g1] at g2;have:=Option.some.inj g2;exact .inr ⟨x.2,List.mem_of_getElem? g1,hxi,by rw [this];exact hyj⟩
   ·rw [Apu hv hj.1 hj.2 (fun c hc hjc'=>hjc ⟨c,hc,hjc'⟩)] at h;have h2:=Option.some.inj h;omega
  ·rw [Apu hv hi.1 hi.2 (fun c hc hic'=>hic ⟨c,hc,hic'⟩)] at h;by_cases hjc:∃ d∈p.Classes,j∈d
   ·obtain ⟨y,hy,hyj⟩:=inn hjc;obtain ⟨m,_,e2,g2⟩:=Ag8 hy;rw [Akx hv hy hyj] at h;have h2:=Option.some.inj h;omega
   ·rw [Apu hv hj.1 hj.2 (fun c hc hjc'=>hjc ⟨c,hc,hjc'⟩)] at h;exact .inl (by have:=Option.some.inj h;omega)
 ·rintro (rfl | ⟨c,hc,h1,h2⟩)
  ·rfl
  ·obtain ⟨n,hn⟩:=Aw1 (k:=0) hc;rw [Akx hv hn h1,Akx hv hn h2]
def Ajt (a b:api_Partition):Int:=if Ac8 a then (if Ac8 b then (if a.Rows=b.Rows then 0 else 6) else 1) else 1
theorem q58_.spec {a b:api_Partition} (ha:Ahs a) (hb:Ahs b):q58_.C a b (Ajt a b):=by
 obtain ⟨r,h1,h2⟩:=q58_.enter a b (fun r=>r=Ajt a b) (by
  refine ⟨_,q53_.spec ha,?_⟩;unfold Ajt
  split
  ·refine ⟨_,q53_.spec hb,?_⟩
   split
   ·split
    ·rfl
    ·rfl
   ·rfl
  ·rfl)
 rw [← h1];exact h2
theorem Amu {rows:Int}:∀ {cs:List (List Int)} {c:List Int},CP rows cs->c∈cs->(c.length:Int)-1<=Agn cs/\(cs.length:Int)<=Agn cs
 | [],_,_,h=>by cases h
 | d::cs,c,hp,h=>by
  have hd:=hp.two d (by simp);have hp':CP rows cs:=⟨fun c hc=>hp.two c (by simp [hc]),fun c hc=>hp.inc c (by simp [hc]),fun c hc=>hp.inn c (by simp [hc]),(List.pairwise_cons.1 hp.heads).2,(List.pairwise_cons.1 hp.disj).2⟩
  have hnn:∀ {cs:List (List Int)},CP rows cs->(cs.length:Int)<=Agn cs:=by
   intro cs
   induction cs with
   | nil=>intro _;simp [Agn]
   | cons e cs ih=>
    intro hq;have he:=hq.two e (by simp);have:=ih ⟨fun c hc=>hq.two c (by simp [hc]),fun c hc=>hq.inc c (by simp [hc]),fun c hc=>hq.inn c (by simp [hc]),(List.pairwise_cons.1 hq.heads).2,(List.pairwise_cons.1 hq.disj).2⟩;simp only [Agn,List.length_cons];omega
  have h1:=hnn hp';simp only [Agn,List.length_cons];refine ⟨?_,by omega⟩;rcases List.mem_cons.1 h with rfl | h
  ·omega
  ·have:=(Amu hp' h).1;omega
theorem Bjw {x:api_Partition} (hv:Ac8 x=true):x.Classes.length<=1000/\∀ c∈x.Classes,c.length<=1001:=by
 obtain ⟨v1,v2,v3⟩:=Af9.1 hv;obtain ⟨w1,w2,w3⟩:=Ax0 hv;have h1:=(Aqg (by simp;omega) w3).2;rw [Asc] at h1;refine ⟨?_,fun c hc=>?_⟩
 ·cases hcs:x.Classes with
  | nil=>simp
  | cons c cs=>
   have:=(Amu v3 (c:=c) (by rw [hcs];simp)).2;rw [hcs] at this h1;omega
 ·have:=(Amu v3 hc).1;omega
def lab1 (r:List Int) (i:Int):Int:=(lget r i).getD 0
theorem Aye {r:List Int} {i a:Int} (h:lget r i=some a):lab1 r i=a:=by simp [lab1,h]
theorem Bdi {r:List Int} {i j:Int} (hi:0<=i/\i<r.length) (hj:0<=j/\j<r.length):lab1 r i=lab1 r j↔lget r i=lget r j:=by
 obtain ⟨a,ha⟩:=Agb hi.1 hi.2;obtain ⟨b,hb⟩:=Agb hj.1 hj.2;simp [lab1,ha,hb]
def cls {α:Type} [DecidableEq α] (l:List α) (a:α):List Int:=((List.range l.length).filter fun k=>decide (l[k]? = some a)).map fun (k:Nat)=>(k:Int)
def fsts {α:Type} [DecidableEq α] (l:List α):List α:=l.foldl (fun acc a=>if a∈acc then acc else acc++[a]) []
def grpF {α:Type} [DecidableEq α] (l:List α):List (List Int):=((fsts l).map (cls l)).filter fun c=>decide (2<=c.length)
section
variable {α:Type} [DecidableEq α]
theorem Acq {l:List α} {a:α}:fsts (l++[a])=if a∈fsts l then fsts l else fsts l++[a]:=by
 unfold fsts;rw [List.foldl_append];rfl
theorem Afx {p:List α->Prop} (h0:p []) (h1:∀ l a,p l->p (l++[a])):∀ l,p l:=by
 intro l;have:∀ n (l:List α),l.length=n->p l:=by
  intro n
  induction n with
  | zero=>intro l hl;rw [List.length_eq_zero_iff.1 hl];exact h0
  | succ n ih=>
   intro l hl;have hne:l≠[]:=fun h=>by rw [h] at hl;simp at hl
   rw [← List.dropLast_concat_getLast hne];exact h1 _ _ (ih _ (by simp [hl]))
 exact this _ l rfl
theorem Ahl {l:List α} {a:α}:a∈fsts l↔a∈l:=by
 refine Afx (p:=fun l=>a∈fsts l↔a∈l) (by simp [fsts]) (fun l b ih=>?_) l;rw [Acq]
 split
 ·rename_i hb;rw [ih];simp only [List.mem_append,List.mem_singleton];constructor
  ·exact .inl
  ·rintro (h | rfl)
   ·exact h
   ·have:a∈fsts l:=hb;exact ih.1 this
 ·simp only [List.mem_append,List.mem_singleton,ih]
theorem Azd {l:List α}:(fsts l).Nodup:=by
 refine Afx (p:=fun l=>(fsts l).Nodup) (by simp [fsts]) (fun l b ih=>?_) l;rw [Acq]
 split
 ·exact ih
 ·rename_i hb;rw [List.nodup_append];exact ⟨ih,by simp,fun x hx y hy=>by simp at hy;subst hy;exact fun h=>hb (h ▸ hx)⟩
theorem Alk {l:List α} {a b:α}:cls (l++[b]) a=if b=a then cls l a++[(l.length:Int)] else cls l a:=by
 unfold cls;rw [List.length_append,List.length_singleton,List.range_succ,List.filter_append,List.map_append];have h1:((List.range l.length).filter fun k=>decide ((l++[b])[k]? = some a))=(List.range l.length).filter fun k=>decide (l[k]? = some a):=by
  refine List.filter_congr fun k hk=>?_;rw [List.getElem?_append_left (by simpa using hk)]
 rw [h1];by_cases h:b=a
 ·simp [h]
 ·simp [h]
theorem Bet {l:List α} {a:α} (h:a ∉ l):cls l a=[]:=by
 unfold cls;have:((List.range l.length).filter fun k=>decide (l[k]? = some a))=[]:=by
  rw [List.filter_eq_nil_iff];intro k _ hk;exact h (List.mem_of_getElem? (by simpa using hk))
 rw [this];rfl
theorem Aem {l:List α} {a:α} {i:Int}:i∈cls l a↔lget l i=some a:=by
 unfold cls;simp only [List.mem_map,List.mem_filter,List.mem_range,decide_eq_true_eq];constructor
 ·rintro ⟨k,⟨_,h⟩,rfl⟩;rw [Acg];exact h
 ·intro h;obtain ⟨h0,h1⟩:=Abq h;exact ⟨i.toNat,⟨(List.getElem?_eq_some_iff.1 h1).1,h1⟩,by omega⟩
end
def Ads (c:List Int):Bool:=decide (2<=c.length)
theorem Att {c:List Int}:decide ((c.length:Int)<2)=!Ads c:=by
 unfold Ads;by_cases h:(c.length:Int)<2
 ·have:¬ 2<=c.length:=by omega
  simp [h,this]
 ·have:2<=c.length:=by omega
  simp [h,this]
def Aex:List (List Int)->Nat->Int
 | [],_=>-1
 | c::cs,k=>if Ads c then Aex cs (k+1) else (k:Int)
theorem Ama:∀ {l:List (List Int)} {k:Nat},(Aex l k = -1/\∀ c∈l,Ads c=true)∨∃ n:Nat,Aex l k=((k+n:Nat):Int)/\n<l.length/\(∀ c∈l.take n,Ads c=true)/\∃ c,l[n]? = some c/\Ads c=false
 | [],_=>.inl ⟨rfl,by simp⟩
 | c::l,k=>by
  simp only [Aex];cases hc:Ads c with
  | false=>exact .inr ⟨0,by simp,by simp,by simp,c,rfl,hc⟩
  | true=>
   simp only [if_true];rcases Ama (l:=l) (k:=k+1) with ⟨h1,h2⟩ | ⟨n,h1,h2,h3,h4⟩
   ·exact .inl ⟨h1,by simpa [hc] using h2⟩
   ·refine .inr ⟨n+1,by rw [h1];congr 1;omega,by simpa using h2,by simpa [hc] using h3,by simpa using h4⟩
def ixn {α:Type} [DecidableEq α]:List α->α->Nat
 | [],_=>0
 | b::l,a=>if b=a then 0 else ixn l a+1
theorem Bbl {α:Type} [DecidableEq α] {a:α}:∀ {l:List α},a∈l->ixn l a<l.length
 | [],h=>by cases h
 | b::l,h=>by
  simp only [ixn,List.length_cons]
  split
  ·omega
  ·rename_i hb;have:=Bbl (l:=l) (a:=a) ((List.mem_cons.1 h).resolve_left fun h=>hb h.symm);omega
theorem Asi {α:Type} [DecidableEq α] {a:α}:∀ {l:List α},a∈l->l[ixn l a]? = some a
 | [],h=>by cases h
 | b::l,h=>by
  simp only [ixn]
  split
  ·rename_i hb;subst hb;rfl
  ·rename_i hb;rw [List.getElem?_cons_succ];exact Asi ((List.mem_cons.1 h).resolve_left fun h=>hb h.symm)
theorem Bbk {α:Type} [DecidableEq α] {a:α}:∀ {l m:List α},a∈l->ixn (l++m) a=ixn l a
 | [],_,h=>by cases h
 | b::l,m,h=>by
  simp only [List.cons_append,ixn]
  split
  ·rfl
  ·rename_i hb;rw [Bbk ((List.mem_cons.1 h).resolve_left fun h=>hb h.symm)]
theorem Aw2 {α:Type} [DecidableEq α] {a:α}:∀ {l:List α},a ∉ l->ixn (l++[a]) a=l.length
 | [],_=>by simp [ixn]
 | b::l,h=>by
  simp only [List.mem_cons,not_or] at h;simp only [List.cons_append,ixn,if_neg (Ne.symm h.1),List.length_cons];rw [Aw2 h.2]
theorem Aw3 {α:Type} [DecidableEq α] {a:α}:∀ {l:List α} {q:Nat},l.Nodup->l[q]? = some a->ixn l a=q
 | [],q,_,h=>by simp at h
 | b::l,0,_,h=>by
  simp only [List.getElem?_cons_zero,zJ] at h;simp [ixn,h]
 | b::l,q+1,hl,h=>by
  simp only [List.getElem?_cons_succ] at h;have hn:=List.nodup_cons.1 hl;have:b≠a:=fun hb=>hn.1 (hb ▸ List.mem_of_getElem? h);simp only [ixn,if_neg this,Aw3 hn.2 h]
def ixOf {α:Type} [DecidableEq α] (m:List (α×Int)) (ks:List α):Prop:=∀ a,mget a m=if a∈ks then some ((ixn ks a:Nat):Int) else none
theorem Au5 {κ ν:Type} [DecidableEq κ] {k k':κ} {v:ν}:∀ {l:List (κ×ν)},mget k' (mset k v l)=if k=k' then some v else mget k' l
 | []=>by
  by_cases h:k=k'
  ·subst h;simp [mset,mget]
  ·simp [mset,mget,h,Ne.symm h]
 | (a,b)::l=>by
  have ih:=Au5 (k:=k) (k':=k') (v:=v) (l:=l);simp only [mset];by_cases h1:k=a
  ·subst h1;simp only [if_true,mget];by_cases h2:k'=k
   ·subst h2;simp
   ·simp [h2,Ne.symm h2]
  ·simp only [if_neg h1,mget];by_cases h2:k'=a
   ·subst h2;simp [h1]
   ·simp only [if_neg h2];exact ih
end Go.Own
namespace Go.Own
open Go.Proofs D
set_option maxRecDepth 100000
set_option maxHeartbeats 4000000
namespace q11_
noncomputable def B:Code:=(Tryz.f140.body).getD .skip
def W:List Nat:=[0,2]
def res (r:Bool):D×List D:=(.lit (.bool r),[])
def C (x0:List Int) (r:Bool):Prop:=Ret env 140 [.sl (x0.map (eI .i64))] (res r).1 (res r).2
theorem enter (x0:List Int) (φ:Bool->Prop) (h :
 φ ((decide ((x0.length:Int)<2)))):∃ r,φ r/\C x0 r:=
 mEnt (fd:=Tryz.f140) (body:=B) (V:=W) (res:=res) <|
 mLen 5 (eI .i64) x0 <|
 mRet 3 h
end q11_
namespace q3_
noncomputable def B:Code:=(Tryz.f135.body).getD .skip
def W:List Nat:=[0,1,4,5,7,8,9,16]
def res (r:Int):D×List D:=(.lit (.int .i64 r),[])
def C (x0:List (List Int)) (r:Int):Prop:=Ret env 135 [.sl (x0.map (eSl (eI .i64))),.fn 140 []] (res r).1 (res r).2
def L1 (x0:List (List Int)) (z0:Int) (φ:Int->Prop):Prop:=Pt env 135 W B [1,0,1,0] [(0,.sl (x0.map (eSl (eI .i64)))),(1,.fn 140 []),(7,.lit (.int .i64 ((x0.length:Int)))),(8,.lit (.int .i64 z0))] (Lv env 135 Tryz.f135 2 res φ)
theorem L1_step (x0:List (List Int)) (z0:Int) (φ:Int->Prop) (h :
 (if z0<(x0.length:Int) then
 ∃ a1,lget x0 z0=some a1 /\
 ∃ r3:Bool,q11_.C a1 r3 /\
 (if r3=true then
 φ z0
 else
 q3_.L1 x0 ((IntKind.wrap .i64 (z0+1))) φ)
 else
 φ ((-1)))):L1 x0 z0 φ:=
 mIn <|
 mAsk 2 h dT dF (fun h=>
 mIx 11 (eSl (eI .i64)) h fun a1 h2 h=>
 Aaw 1 h (fun _ h=>h) (fun _ h=>
 mRet 6 h) fun _ h=>
 mFin 7 h) fun h=>
 mRet 6 h
theorem enter (x0:List (List Int)) (φ:Int->Prop) (h :
 q3_.L1 x0 0 φ):∃ r,φ r/\C x0 r:=
 mEnt (fd:=Tryz.f135) (body:=B) (V:=W) (res:=res) <|
 mLen 5 (eSl (eI .i64)) x0 <|
 mFin 2 h
end q3_
namespace q2_
noncomputable def B:Code:=(Tryz.f139.body).getD .skip
def W:List Nat:=[0,1,4,5,6,7,12,19,29]
def res (r:(List (List Int)×Bool)):D×List D:=((sown (r.1.map (eSl (eI .i64))) r.2),[])
def C (k0_0:List (List Int)) (r:(List (List Int)×Bool)):Prop:=Ret env 139 [.own (k0_0.map (eSl (eI .i64))),.fn 140 []] (res r).1 (res r).2
def L1 (k0_0:List (List Int)) (r1 z0:Int) (φ:(List (List Int)×Bool)->Prop):Prop:=Pt env 139 W B [1,1,1,0,1,0] [(0,.own (k0_0.map (eSl (eI .i64)))),(1,.fn 140 []),(5,.lit (.int .i64 r1)),(6,.lit (.int .i64 z0))] (Lv env 139 Tryz.f139 2 res φ)
def L2 (k0_0:List (List Int)) (r1 z0:Int) (φ:(List (List Int)×Bool)->Prop):Prop:=Pt env 139 W B [1,1,1,0,1,0,0,1,1] [(0,.own (k0_0.map (eSl (eI .i64)))),(1,.fn 140 []),(5,.lit (.int .i64 r1)),(6,.lit (.int .i64 z0))] (Lv env 139 Tryz.f139 2 res φ)
theorem L1_step (k0_0:List (List Int)) (r1 z0:Int) (φ:(List (List Int)×Bool)->Prop) (h :
 (if z0<(k0_0.length:Int) then
 ∃ a2,lget k0_0 z0=some a2 /\
 ∃ r4:Bool,q11_.C a2 r4 /\
 (if r4=true then
 q2_.L2 k0_0 r1 z0 φ
 else
 ∃ a5,lget k0_0 r1=some a5 /\
 q2_.L2 ((lset k0_0 r1 a2)) ((IntKind.wrap .i64 (r1+1))) z0 φ)
 else
 0<=r1 /\
 (r1.toNat<=k0_0.length/\k0_0.length<=k0_0.length) /\
 r1.toNat+(k0_0.length-r1.toNat)<=k0_0.length /\
 0<=r1 /\
 r1.toNat+(k0_0.length-r1.toNat)<=k0_0.length /\
 r1.toNat<=k0_0.length /\
 (r1.toNat+(k0_0.length-r1.toNat)<=k0_0.length/\r1.toNat<=k0_0.length/\r1.toNat<=r1.toNat) /\
 φ (⟨(List.take r1.toNat k0_0),(!(((List.take r1.toNat k0_0)).isEmpty))⟩))):L1 k0_0 r1 z0 φ:=
 mIn <|
 mLen 4 (eSl (eI .i64)) k0_0 <|
 mAsk 0 h dT dF (fun h=>
 mIy 6 (eSl (eI .i64)) h fun a2 h3 h=>
 mLd 0 (eSl (eI .i64)) h3 <|
 Aaw 5 h (fun _ h=>h) (fun _ h=>
 mFin 4 h) fun _ h=>
 mIy 7 (eSl (eI .i64)) h fun a5 h6 h=>
 mSto 0 (eSl (eI .i64)) a2 h6 <|
 mFin 6 h) fun h=>
 h.elim fun h7 h=>
 h.elim fun h8 h=>
 mVl 6 (Awz (s:=0) (ps:=[]) (t:=125) (x:=(.tmp 36)) (lo:=(some (.tmp 37))) (hi:=none) (lo':=some (r1).toNat) (hi':=none) (e:=(eSl (eI .i64))) (l:=k0_0) (et:=92) (k:=1) (by kernel_rfl) (by kernel_rfl) (Ain (by kernel_rfl)) (Ai0 (i:=r1) (q:=.i64) (by kernel_rfl) h7) Ahz (by kernel_rfl) (by kernel_rfl) (fun _=>rfl) (by kernel_rfl) h8.1 h8.2) <|
 h.elim fun h9 h=>
 mOp 0 (Bdw (t:=125) (x:=(.tmp 38)) (s:=0) (ps:=[]) (off:=r1.toNat) (len:=(k0_0.length-r1.toNat)) (l:=k0_0) (e:=(eSl (eI .i64))) (et:=92) (z:=.own []) (k:=1) (by kernel_rfl) (by kernel_rfl) (by kernel_rfl) (by kernel_rfl) (by kernel_rfl) (by kernel_rfl) (by kernel_rfl) (by kernel_rfl) (fun _=>rfl) h9 (by kernel_rfl)) <|
 h.elim fun h10 h=>
 h.elim fun h11 h=>
 h.elim fun h12 h=>
 mVl 4 (Aup (t:=125) (x:=(.tmp 39)) (hi:=(some (.tmp 40))) (hi':=r1.toNat) (e:=(eSl (eI .i64))) (l:=k0_0) (off:=r1.toNat) (len:=(k0_0.length-r1.toNat)) (z:=.own []) (et:=92) (k:=1) (s:=0) (ps:=[]) (by kernel_rfl) (by kernel_rfl) (by kernel_rfl) (Ai0 (i:=r1) (q:=.i64) (by kernel_rfl) h10) (by kernel_rfl) (by kernel_rfl) (fun _=>rfl) (by kernel_rfl) (by kernel_rfl) h11 h12) <|
 h.elim fun h13 h=>
 mRet 2 h (hl:=(Bbr (t:=4) (s:=0) (n:=r1.toNat) (m:=(List.take r1.toNat k0_0)) (e:=(eSl (eI .i64))) (es:=clr (eSl (eI .i64)) k0_0 r1.toNat (k0_0.length-r1.toNat) (.own [])) (by kernel_rfl) (by kernel_rfl) (by kernel_rfl) (by rw [Ay9 (by first | exact h13.1 | omega)];exact h13.2.1) (Bcz h13.1 h13.2.2) (by kernel_rfl)))
theorem L2_step (k0_0:List (List Int)) (r1 z0:Int) (φ:(List (List Int)×Bool)->Prop) (h :
 q2_.L1 k0_0 r1 ((IntKind.wrap .i64 (z0+1))) φ):L2 k0_0 r1 z0 φ:=
 mIn <|
 mFin 5 h
theorem enter (k0_0:List (List Int)) (φ:(List (List Int)×Bool)->Prop) (h :
 ∃ r1:Int,q3_.C k0_0 r1 /\
 (if r1=(-1) then
 φ (⟨k0_0,true⟩)
 else
 q2_.L1 k0_0 r1 ((IntKind.wrap .i64 (r1+1))) φ)):∃ r,φ r/\C k0_0 r:=
 mEnt (fd:=Tryz.f139) (body:=B) (V:=W) (res:=res) <|
 mCal 6 h (fun _ h=>h) (hr:=by exact (Ach (Abw (s:=0) (ps:=[]) (l:=k0_0) (e:=(eSl (eI .i64))) (e':=(eSl (eI .i64))) (fun _=>rfl) (by kernel_rfl)) (pr_k Af6))) fun r1 _ h=>
 mAsk 4 h Abz Aby (fun h=>
 mRet 6 h) fun h=>
 mFin 8 h
end q2_
namespace q12_
noncomputable def B:Code:=(Tryz.f119.body).getD .skip
def W:List Nat:=[0,2,3,4,5,6,7,8,10,11,12,13,24]
def res (r:List (List Int)):D×List D:=(.sl (r.map (eSl (eI .i64))),[])
def C (x0:List ByteArray) (r:List (List Int)):Prop:=Ret env 119 [.sl (x0.map eS)] (res r).1 (res r).2
def L1 (x0:List ByteArray) (z0:List (ByteArray×Int)) (z1:List (List Int)) (z2:Int) (φ:List (List Int)->Prop):Prop:=Pt env 119 W B [1,1,1,0,1,0] [(0,.sl (x0.map eS)),(3,(eMap Value.string (fun (x:Int)=>D.lit (.int .i64 x)) z0)),(4,.own (z1.map (eOw (eI .i64)))),(10,.sl (x0.map eS)),(11,.lit (.int .i64 ((x0.length:Int)))),(12,.lit (.int .i64 z2))] (Lv env 119 Tryz.f119 1 res φ)
def L2 (x0:List ByteArray) (z0:List (ByteArray×Int)) (z1:List (List Int)) (z2 z3:Int) (φ:List (List Int)->Prop):Prop:=Pt env 119 W B [1,1,1,0,1,0,0,1,1,0,0,1,1,1] [(0,.sl (x0.map eS)),(3,(eMap Value.string (fun (x:Int)=>D.lit (.int .i64 x)) z0)),(4,.own (z1.map (eOw (eI .i64)))),(5,.lit (.int .i64 z2)),(7,.lit (.int .i64 z3)),(10,.sl (x0.map eS)),(11,.lit (.int .i64 ((x0.length:Int)))),(12,.lit (.int .i64 z2))] (Lv env 119 Tryz.f119 1 res φ)
theorem L1_step (x0:List ByteArray) (z0:List (ByteArray×Int)) (z1:List (List Int)) (z2:Int) (φ:List (List Int)->Prop) (h :
 (if z2<(x0.length:Int) then
 ∃ a1,lget x0 z2=some a1 /\
 (if (mhas a1 z0)=true then
 q12_.L2 x0 z0 z1 z2 ((Azr a1 z0 0)) φ
 else
 (z1.length+1)*24<=140737488355328 /\
 q12_.L2 x0 ((mset a1 (z1.length:Int) z0)) ((z1++[[]])) z2 ((z1.length:Int)) φ)
 else
 ∃ r4:(List (List Int)×Bool),q2_.C z1 r4 /\
 φ r4.1)):L1 x0 z0 z1 z2 φ:=
 mIn <|
 mAsk 2 h dT dF (fun h=>
 mIx 5 eS h fun a1 h2 h=>
 mVl 7 (Awy Bbm (fun _=>by kernel_rfl) (ek:=Value.string) (ev:=(fun (x:Int)=>D.lit (.int .i64 x))) (t:=185) (x:=(.tmp 18)) (kx:=(.tmp 19)) (s:=3) (ps:=[]) (l:=z0) (kd:=.lit (.string a1)) (kv:=a1) (kt:=9) (vt:=3) (v0:=0) (by kernel_rfl) (by kernel_rfl) (by kernel_rfl) (by kernel_rfl) (by kernel_rfl) (by kernel_rfl) (by kernel_rfl) (by kernel_rfl)) <|
 mAsk 7 h id fls (fun h=>
 mFin 4 h) fun h=>
 mLen 5 (eOw (eI .i64)) z1 <|
 mOp 6 (Awh Bbm (fun _=>by kernel_rfl) (ek:=Value.string) (ev:=(fun (x:Int)=>D.lit (.int .i64 x))) (t:=185) (mx:=(.tmp 27)) (kx:=(.tmp 28)) (vx:=(.tmp 29)) (s:=3) (ps:=[]) (l:=z0) (kd:=.lit (.string a1)) (kv:=a1) (kt:=9) (vt:=3) (v:=(z1.length:Int)) (d:=.lit (.int .i64 ((z1.length:Int)))) (by kernel_rfl) (by kernel_rfl) (by kernel_rfl) (by kernel_rfl) (by kernel_rfl) (by kernel_rfl) (by kernel_rfl) (by kernel_rfl) (by kernel_rfl) (Aol (by kernel_rfl))) <|
 mApp 4 (eOw (eI .i64)) z1 ([[]]) h fun h=>
 mFin 2 h) fun h=>
 mXit 2 [(4,.own (z1.map (eSl (eI .i64))))] (Bad (F0:=[(4,.own (z1.map (eOw (eI .i64))))]) (l:=z1) (e:=(eI .i64)) (e':=(eI .i64)) (s:=4) (by kernel_rfl) (by kernel_rfl) (by kernel_rfl) (fun _=>rfl) (by kernel_rfl) (by kernel_rfl)) <|
 Bjr 2 h (fun _ h=>h) (fun (r4:(List (List Int)×Bool))=>Bb3 (l:=r4.1) (e:=(eSl (eI .i64))) rfl (fun _=>rfl)) (hf:=(fun _=>Avh)) fun r4 _ h=>
 mRet 2 h
theorem L2_step (x0:List ByteArray) (z0:List (ByteArray×Int)) (z1:List (List Int)) (z2 z3:Int) (φ:List (List Int)->Prop) (h :
 ∃ a5,lget z1 z3=some a5 /\
 (a5.length+1)*8<=140737488355328 /\
 q12_.L1 x0 z0 ((lset z1 z3 (a5++[z2]))) ((IntKind.wrap .i64 (z2+1))) φ):L2 x0 z0 z1 z2 z3 φ:=
 mIn <|
 mIy 5 (eOw (eI .i64)) h fun a5 h6 h=>
 mLd 0 (eOw (eI .i64)) h6 <|
 h.elim fun h7 h=>
 mOp 2 (app2 (x:=(.tmp 38)) (y:=(.tmp 40)) (t:=92) (u:=92) (et:=3) (z:=.lit (.int .i64 0)) (k:=1) (c:=8) (e:=(eI .i64)) (l:=a5) (m:=[z2]) (by kernel_rfl) (by kernel_rfl) (by kernel_rfl) (by kernel_rfl) (by kernel_rfl) (Bh1 (s:=4) (ps:=[]) (n:=(z3.toNat)) (c:=0) (e:=(eOw (eI .i64))) (l:=z1) (a:=a5) (by kernel_rfl) (by kernel_rfl) (Abq h6).2 (by kernel_rfl) (by kernel_rfl) (Aol (by kernel_rfl))) (by kernel_rfl) (by kernel_rfl) (by kernel_rfl) (by kernel_rfl) (by kernel_rfl) (fun _=>rfl) h7) <|
 mVl 0 (Aww (s:=4) (ps:=[]) (cs:=[.undef]) (t:=125) (x:=(.tmp 33)) (ix:=(.tmp 34)) (et:=92) (k:=1) (e:=(eOw (eI .i64))) (l:=z1) (i:=z3) (q:=.i64) (a:=a5) (by kernel_rfl) (by kernel_rfl) (by kernel_rfl) (by kernel_rfl) (by kernel_rfl) (by kernel_rfl) h6 (by kernel_rfl)) <|
 mOp 0 (Bjf (t:=92) (x:=(.tmp 42)) (y:=(.tmp 41)) (s:=4) (ps:=[]) (n:=(z3.toNat)) (e:=(eOw (eI .i64))) (l:=z1) (a:=a5) (b:=(a5++[z2])) (k:=1) (cs:=[.undef]) (d:=.own (((a5++[z2])).map (eI .i64))) (by kernel_rfl) (by kernel_rfl) (by kernel_rfl) (by kernel_rfl) (Abq h6).2 (by kernel_rfl) (by kernel_rfl) (by kernel_rfl) (by kernel_rfl) (by kernel_rfl) (Aol (by kernel_rfl))) <|
 mFin 5 h
theorem enter (x0:List ByteArray) (φ:List (List Int)->Prop) (h :
 q12_.L1 x0 ([]) ([]) 0 φ):∃ r,φ r/\C x0 r:=
 mEnt (fd:=Tryz.f119) (body:=B) (V:=W) (res:=res) <|
 mLen 12 eS x0 <|
 mFin 2 h
end q12_
end Go.Own
namespace Go.Own
theorem q11_.spec {c:List Int}:q11_.C c (decide ((c.length:Int)<2)):=by
 obtain ⟨r,h1,h2⟩:=q11_.enter c (fun r=>r=decide ((c.length:Int)<2)) rfl;rw [← h1];exact h2
namespace q3_
theorem loop {x0:List (List Int)} {φ:Int->Prop} (hn:x0.length<Big):∀ (r:List (List Int)) (k:Nat),x0.drop k=r->φ (Aex r k)->L1 x0 k φ
 | [],k,hd,h=>by
  apply L1_step;have:=Abs hd;rw [if_neg (by omega)];exact h
 | c::r,k,hd,h=>by
  apply L1_step;have hk:=Abt hd;rw [if_pos (by omega)];refine ⟨c,Acs hd,_,q11_.spec,?_⟩;rw [Att];simp only [Aex] at h
  split
  ·rename_i h1;have:Ads c=false:=by simpa using h1
   rw [this] at h;exact h
  ·rename_i h1;have:Ads c=true:=by simpa using h1
   rw [this] at h;rw [Aa3 (by unfold Big at hn;omega)];exact loop hn r (k+1) (Aao hd) h
theorem spec {x0:List (List Int)} (hn:x0.length<Big):C x0 (Aex x0 0):=by
 obtain ⟨r,h1,h2⟩:=enter x0 (fun r=>r=Aex x0 0) (loop hn x0 0 rfl rfl);rw [← h1];exact h2
end q3_
namespace q2_
theorem loop {x0:List (List Int)} {φ:List (List Int)×Bool->Prop} (hn:x0.length<Big) (hφ:∀ b,φ (x0.filter Ads,b)):∀ (r:List (List Int)) (k j:Nat) (l:List (List Int)),x0.drop k=r->l.length=x0.length->l.drop k=x0.drop k->l.take j=(x0.take k).filter Ads->j<=k->k<=x0.length->L1 l j k φ
 | [],k,j,l,hd,hl,h1,h2,h3,h4=>by
  apply L1_step;have hk:=Abs hd;rw [if_neg (by omega)];refine ⟨by omega,⟨by omega,by omega⟩,by omega,by omega,by omega,by omega,⟨by omega,by omega,by omega⟩,?_⟩;rw [Int.toNat_natCast,h2,List.take_of_length_le hk];exact hφ _
 | c::r,k,j,l,hd,hl,h1,h2,h3,h4=>by
  apply L1_step;have hk:=Abt hd;rw [if_pos (by omega)];have hlk:l.drop k=c::r:=by rw [h1,hd]
  refine ⟨c,Acs hlk,_,q11_.spec,?_⟩;rw [Att];have htk:x0.take (k+1)=x0.take k++[c]:=by rw [List.take_add_one,Aax hd];rfl
  split
  ·rename_i hc;have hc:Ads c=false:=by simpa using hc
   apply L2_step;rw [Aa3 (by unfold Big at hn;omega)];refine loop hn hφ r (k+1) j l (Aao hd) hl ?_ ?_ (by omega) (by omega)
   ·rw [Aao hlk,Aao hd]
   ·rw [htk,List.filter_append,h2];simp [hc]
  ·rename_i hc;have hc:Ads c=true:=by simpa using hc
   obtain ⟨a,ha⟩:=Agb (l:=l) (i:=(j:Int)) (by omega) (by omega);refine ⟨a,ha,?_⟩;apply L2_step;rw [Aa3 (by unfold Big at hn;omega),Aa3 (by unfold Big at hn;omega)];have hs:lset l (j:Int) c=l.set j c:=by simp [lset]
   rw [hs];refine loop hn hφ r (k+1) (j+1) (l.set j c) (Aao hd) (by simp [hl]) ?_ ?_ (by omega) (by omega)
   ·rw [List.drop_set_of_lt (by omega),Aao hlk,Aao hd]
   ·rw [htk,List.filter_append,← h2,List.take_add_one];have e1:(l.set j c)[j]? = some c:=by rw [List.getElem?_set_self (by omega)]
    rw [e1,List.take_set_of_le (by omega)];simp [hc]
theorem spec {x0:List (List Int)} (hn:x0.length<Big):∃ b,C x0 (x0.filter Ads,b):=by
 obtain ⟨r,h1,h2⟩:=enter x0 (fun r=>r.1=x0.filter Ads) (by
  refine ⟨_,q3_.spec hn,?_⟩;rcases Ama (l:=x0) (k:=0) with ⟨h1,h2⟩ | ⟨n,h1,h2,h3,c,h4,h5⟩
  ·rw [if_pos h1];exact (List.filter_eq_self.2 h2).symm
  ·rw [if_neg (by omega),h1,Nat.zero_add,Aa3 (by unfold Big at hn;omega)];refine loop (φ:=fun r=>r.1=x0.filter Ads) hn (fun b=>rfl) _ (n+1) n x0 rfl rfl rfl ?_ (by omega) (by omega);have htk:x0.take (n+1)=x0.take n++[c]:=by rw [List.take_add_one,h4];rfl
   rw [htk,List.filter_append,List.filter_eq_self.2 h3]
   simp [h5])
 obtain ⟨l,b⟩:=r;simp only at h1;subst h1;exact ⟨b,h2⟩
end q2_
namespace q12_
theorem loop {x0:List ByteArray} {φ:List (List Int)->Prop} (hn:x0.length<=10000) (hφ:φ (grpF x0)):∀ (r:List ByteArray) (k:Nat) (m:List (ByteArray×Int)),x0.drop k=r->ixOf m (fsts (x0.take k))->L1 x0 m ((fsts (x0.take k)).map (cls (x0.take k))) k φ
 | [],k,m,hd,hm=>by
  apply L1_step;have hk:=Abs hd;rw [if_neg (by omega),List.take_of_length_le hk];have hlen:((fsts x0).map (cls x0)).length<Big:=by
   rw [List.length_map];have:∀ l:List ByteArray,(fsts l).length<=l.length:=by
    intro l;refine Afx (p:=fun l=>(fsts l).length<=l.length) (by simp [fsts]) (fun l b ih=>?_) l;rw [Acq]
    split
    ·simp;omega
    ·simp;omega
   have:=this x0;unfold Big;omega
  obtain ⟨b,hb⟩:=q2_.spec hlen;exact ⟨_,hb,hφ⟩
 | a::r,k,m,hd,hm=>by
  apply L1_step;have hk:=Abt hd;rw [if_pos (by omega)];refine ⟨a,Acs hd,?_⟩;have htk:x0.take (k+1)=x0.take k++[a]:=by rw [List.take_add_one,Aax hd];rfl
  have hlen:(x0.take k).length=k:=by rw [List.length_take];omega
  have hle:(fsts (x0.take k)).length<=10000:=by
   have:∀ l:List ByteArray,(fsts l).length<=l.length:=by
    intro l;refine Afx (p:=fun l=>(fsts l).length<=l.length) (by simp [fsts]) (fun l b ih=>?_) l;rw [Acq]
    split
    ·simp;omega
    ·simp;omega
   have:=this (x0.take k);omega
  have hcl:∀ b,(cls (x0.take k) b).length<=10000:=fun b=>by
   unfold cls;rw [List.length_map];exact Nat.le_trans (List.length_filter_le _ _) (by simp;omega)
  by_cases ha:a∈fsts (x0.take k)
  ·have hg:mget a m=some ((ixn (fsts (x0.take k)) a:Nat):Int):=by rw [hm a,if_pos ha]
   rw [if_pos (by simp [mhas,hg])];apply L2_step;have hi:ixn (fsts (x0.take k)) a<(fsts (x0.take k)).length:=Bbl ha;have hgd:Azr a m 0=((ixn (fsts (x0.take k)) a:Nat):Int):=by simp [Azr,hg]
   rw [hgd];refine ⟨cls (x0.take k) a,?_,by have:=hcl a;omega,?_⟩
   ·rw [Acg,List.getElem?_map,Asi ha];rfl
   ·rw [Aa3 (by omega)];have ih:=loop hn hφ r (k+1) m (Aao hd) (by rw [htk,Acq,if_pos ha];exact hm);rw [htk,Acq,if_pos ha] at ih;have e:(fsts (x0.take k)).map (cls (x0.take k++[a]))=lset ((fsts (x0.take k)).map (cls (x0.take k))) ((ixn (fsts (x0.take k)) a:Nat):Int) (cls (x0.take k) a++[(k:Int)]):=by
     unfold lset;rw [Int.toNat_natCast];apply List.ext_getElem?;intro q;rw [List.getElem?_map,List.getElem?_set,List.getElem?_map,List.length_map];by_cases hq:ixn (fsts (x0.take k)) a=q
     ·subst hq;rw [if_pos rfl,if_pos hi,Asi ha];simp [Alk,hlen]
     ·rw [if_neg hq];cases hv:(fsts (x0.take k))[q]? with
      | none=>rfl
      | some b=>
       simp only [Option.map_some,zJ];rw [Alk,if_neg];rintro rfl;exact hq (Aw3 Azd hv)
    rw [e] at ih;exact ih
  ·have hg:mget a m=none:=by rw [hm a,if_neg ha]
   rw [if_neg (by simp [mhas,hg])];have hal:a ∉ x0.take k:=fun h=>ha (Ahl.2 h);refine ⟨by rw [List.length_map];omega,?_⟩;apply L2_step;refine ⟨[],?_,by simp,?_⟩
   ·rw [Acg,List.getElem?_append_right (Nat.le_refl _)];simp
   ·rw [Aa3 (by omega),List.length_map];have ih:=loop hn hφ r (k+1) (mset a ((fsts (x0.take k)).length:Int) m) (Aao hd) (by
     rw [htk,Acq,if_neg ha];intro b;rw [Au5];by_cases hab:a=b
     ·subst hab;rw [if_pos rfl,if_pos (by simp),Aw2 ha]
     ·rw [if_neg hab,hm b];have:b∈fsts (x0.take k)++[a]↔b∈fsts (x0.take k):=by simp [Ne.symm hab]
      by_cases hb:b∈fsts (x0.take k)
      ·rw [if_pos hb,if_pos (this.2 hb),Bbk hb]
      ·rw [if_neg hb,if_neg (fun h=>hb (this.1 h))])
    rw [htk,Acq,if_neg ha] at ih;have e:(fsts (x0.take k)++[a]).map (cls (x0.take k++[a]))=lset ((fsts (x0.take k)).map (cls (x0.take k))++[[]]) ((fsts (x0.take k)).length:Int) ([]++[(k:Int)]):=by
     unfold lset;rw [Int.toNat_natCast,List.set_append_right _ _ (by simp),List.length_map,Nat.sub_self,List.set_cons_zero,List.map_append];congr 1
     ·refine List.map_congr_left fun b hb=>?_;rw [Alk,if_neg];rintro rfl;exact ha hb
     ·simp [Alk,Bet hal,hlen]
    rw [e] at ih;exact ih
theorem spec {x0:List ByteArray} (hn:x0.length<=10000):C x0 (grpF x0):=by
 obtain ⟨r,h1,h2⟩:=enter x0 (fun r=>r=grpF x0) (by
  have:=loop (φ:=fun r=>r=grpF x0) hn rfl x0 0 [] rfl (by intro a;simp [mget,fsts])
  simpa [fsts] using this)
 rw [← h1];exact h2
end q12_
section
variable {α β:Type} [DecidableEq α] [DecidableEq β]
structure Alike (l:List α) (m:List β):Prop where
 len:l.length=m.length
 iff:∀ i j:Nat,i<l.length->j<l.length->(l[i]? = l[j]?↔m[i]? = m[j]?)
theorem Bb1 {l:List α} {m:List β} (h:Alike l m) {k:Nat} {a:α} {b:β} (ha:l[k]? = some a) (hb:m[k]? = some b):cls l a=cls m b:=by
 unfold cls;rw [h.len];congr 1;refine List.filter_congr fun i hi=>?_;have hk:=(List.getElem?_eq_some_iff.1 ha).1;have:=h.iff i k (by rw [h.len];simpa using hi) hk;rw [ha,hb] at this;rw [decide_eq_decide];exact this
theorem Ajb {l:List α} {k:Nat} {a:α}:a∈l.take k↔∃ j,j<k/\l[j]? = some a:=by
 rw [List.mem_iff_getElem?];constructor
 ·rintro ⟨j,hj⟩;rw [List.getElem?_take] at hj
  split at hj
  ·rename_i h;exact ⟨j,h,hj⟩
  ·cases hj
 ·rintro ⟨j,h1,h2⟩;exact ⟨j,by rw [List.getElem?_take_of_lt h1];exact h2⟩
theorem Aej {l:List α} {k:Nat} {a:α} (h:l[k]? = some a):l.take (k+1)=l.take k++[a]:=by rw [List.take_add_one,h];rfl
theorem Au4 {l:List α} {m:List β} (h:Alike l m):∀ k,k<=l.length->(fsts (l.take k)).map (cls l)=(fsts (m.take k)).map (cls m)
 | 0,_=>by simp [fsts]
 | k+1,hk=>by
  have ih:=Au4 h k (by omega);have hl:=List.getElem?_eq_getElem (l:=l) (i:=k) (by omega);have hm:=List.getElem?_eq_getElem (l:=m) (i:=k) (by rw [← h.len];omega);rw [Aej hl,Aej hm,Acq,Acq];have e:l[k]∈fsts (l.take k)↔m[k]'(by rw [← h.len];omega)∈fsts (m.take k):=by
   rw [Ahl,Ahl,Ajb,Ajb];constructor
   ·rintro ⟨j,h1,h2⟩;refine ⟨j,h1,?_⟩;rw [← hm,← h.iff j k (by omega) (by omega),h2,hl]
   ·rintro ⟨j,h1,h2⟩;refine ⟨j,h1,?_⟩;rw [← hl,h.iff j k (by omega) (by omega),h2,hm]
  by_cases hin:l[k]∈fsts (l.take k)
  ·rw [if_pos hin,if_pos (e.1 hin)];exact ih
  ·rw [if_neg hin,if_neg (fun hh=>hin (e.2 hh)),List.map_append,List.map_append,ih];simp only [List.map_cons,List.map_nil,Bb1 h hl hm]
theorem Aze {l:List α} {m:List β} (h:Alike l m):grpF l=grpF m:=by
 have:=Au4 h l.length (Nat.le_refl _);rw [List.take_length,h.len,List.take_length] at this;unfold grpF;rw [this]
theorem Aqc {l:List α} {a:α}:(cls l a).Pairwise (·<·):=by
 unfold cls;rw [List.pairwise_map];refine List.Pairwise.imp ?_ (List.pairwise_lt_range.filter _);intro i j h;omega
theorem Bez {c:List Int} (h:c.Pairwise (·<·)) {i:Int} (hi:i∈c):c.headD 0<=i:=by
 match c,h,hi with
 | a::t,h,hi=>
  simp only [List.headD_cons];rcases List.mem_cons.1 hi with rfl | hi
  ·omega
  ·have:=(List.pairwise_cons.1 h).1 i hi;omega
theorem Bdc {c:List Int} (h:c≠[]):c.headD 0∈c:=by
 match c,h with
 | a::t,_=>simp
theorem Bhf {l:List α} {a:α} (h:a∈l):cls l a≠[]:=by
 obtain ⟨k,hk⟩:=List.mem_iff_getElem?.1 h;intro hn;have:((k:Nat):Int)∈cls l a:=Aem.2 (by rw [Acg];exact hk);rw [hn] at this;cases this
theorem Atq {l:List α}:∀ k,k<=l.length->((fsts (l.take k)).map (cls l)).Pairwise (fun c d=>c.headD 0<d.headD 0/\∀ i∈c,i ∉ d)/\∀ a∈fsts (l.take k),(cls l a).headD 0<(k:Int)
 | 0,_=>by simp [fsts]
 | k+1,hk=>by
  obtain ⟨i1,i2⟩:=Atq (l:=l) k (by omega);obtain ⟨x,hl⟩:∃ x,l[k]? = some x:=⟨_,List.getElem?_eq_getElem (by omega)⟩
  rw [Aej hl,Acq]
  split
  ·exact ⟨i1,fun a ha=>by have:=i2 a ha;omega⟩
  ·rename_i hin;have hne:=Bhf (List.mem_of_getElem? hl);have hkm:((k:Nat):Int)∈cls l x:=Aem.2 (by rw [Acg];exact hl);have hhead:(cls l x).headD 0=(k:Int):=by
    have h1:=Bez Aqc hkm;have h2:=Aem.1 (Bdc hne);obtain ⟨h3,h4⟩:=Abq h2;rcases Int.lt_or_le ((cls l x).headD 0) (k:Int) with h5 | h5
    ·exfalso;apply hin;rw [Ahl,Ajb];exact ⟨_,by omega,h4⟩
    ·omega
   refine ⟨?_,?_⟩
   ·rw [List.map_append,List.pairwise_append];refine ⟨i1,by simp,fun c hc d hd=>?_⟩;simp only [List.map_cons,List.map_nil,List.mem_singleton] at hd;subst hd;obtain ⟨b,hb,rfl⟩:=List.mem_map.1 hc;refine ⟨by rw [hhead];exact i2 b hb,fun i hi hi2=>?_⟩;have e:=(Aem.1 hi).symm.trans (Aem.1 hi2);rw [Option.some.inj e] at hb;exact hin hb
   ·intro a ha;rcases List.mem_append.1 ha with ha | ha
    ·have:=i2 a ha;omega
    ·simp only [List.mem_singleton] at ha;subst ha;rw [hhead];omega
def part (l:List α):api_Partition:=⟨l.length,grpF l⟩
theorem Aja {l:List α} {c:List Int}:c∈grpF l↔∃ a∈l,c=cls l a/\2<=c.length:=by
 unfold grpF;simp only [List.mem_filter,List.mem_map,decide_eq_true_eq];constructor
 ·rintro ⟨⟨a,h1,rfl⟩,h2⟩;exact ⟨a,Ahl.1 h1,rfl,h2⟩
 ·rintro ⟨a,h1,rfl,h2⟩;exact ⟨⟨a,Ahl.2 h1,rfl⟩,h2⟩
theorem Bgt {l:List α}:CP (l.length:Int) (grpF l):=by
 have hp:=(Atq (l:=l) l.length (Nat.le_refl _)).1;rw [List.take_length] at hp;have hp':(grpF l).Pairwise (fun c d=>c.headD 0<d.headD 0/\∀ i∈c,i ∉ d):=hp.filter _;refine ⟨fun c hc=>?_,fun c hc=>?_,fun c hc i hi=>?_,hp'.imp fun h=>h.1,hp'.imp fun h=>h.2⟩
 ·obtain ⟨a,_,_,h⟩:=Aja.1 hc;exact h
 ·obtain ⟨a,_,rfl,_⟩:=Aja.1 hc;exact Aqc
 ·obtain ⟨a,_,rfl,_⟩:=Aja.1 hc;obtain ⟨h1,h2⟩:=Abq (Aem.1 hi);have:=(List.getElem?_eq_some_iff.1 h2).1;omega
theorem Am0 {l:List α} (h:l.length<=1000):Ac8 (part l)=true:=Af9.2 ⟨by simp [part],by simp only [part];omega,Bgt⟩
theorem Bby {l:List α} {i j:Int} (hi:0<=i/\i<l.length) (hj:0<=j/\j<l.length):Same (part l) i j↔lget l i=lget l j:=by
 constructor
 ·rintro (rfl | ⟨c,hc,h1,h2⟩)
  ·rfl
  ·obtain ⟨a,_,rfl,_⟩:=Aja.1 hc;rw [Aem.1 h1,Aem.1 h2]
 ·intro h;by_cases hij:i=j
  ·exact .inl hij
  ·obtain ⟨a,ha⟩:=Agb (l:=l) hi.1 hi.2;have h1:i∈cls l a:=Aem.2 ha;have h2:j∈cls l a:=Aem.2 (h ▸ ha);refine .inr ⟨cls l a,Aja.2 ⟨a,?_,rfl,?_⟩,h1,h2⟩
   ·exact List.mem_of_getElem? (Abq ha).2
   ·match hc:cls l a,h1,h2 with
    | [x],h1,h2=>simp at h1 h2;exact absurd (h1.trans h2.symm) hij
    | _::_::_,_,_=>simp
theorem Azw {l:List α} (h:l.length<=1000):Ahs (part l):=by
 obtain ⟨h1,h2⟩:=Bjw (Am0 h);exact ⟨by unfold Big;omega,fun c hc=>by have:=h2 c hc;unfold Big;omega⟩
end
theorem Bcg {α β:Type} [DecidableEq α] [DecidableEq β] {l:List α} {m:List β} (hl:l.length=m.length) (h:∀ i j:Nat,i<l.length->j<l.length->(l[i]? = l[j]?↔m[i]? = m[j]?)):part l=part m:=by
 unfold part;rw [Aze (l:=l) (m:=m) ⟨hl,h⟩,hl]
section
variable {α:Type} [DecidableEq α]
end
end Go.Own
namespace Go.Own
open Go.Proofs D
set_option maxRecDepth 100000
set_option maxHeartbeats 4000000
namespace q65_
noncomputable def B:Code:=(Tryz.f89.body).getD .skip
def W:List Nat:=[0,1,2,4,5,6,7,8,9,11,12,13,21,22,23,24,28,29,30,31]
def res (r:api_Partition):D×List D:=(.agg [.lit (.int .i64 r.Rows),.sl (r.Classes.map (eSl (eI .i64)))],[])
def C (x0:api_Table) (x1:Int) (r:api_Partition):Prop:=Ret env 89 [.agg [.lit (.string x0.Name),.sl (x0.Attrs.map eS),.sl (x0.Rows.map Aa2)],.lit (.int .u32 x1)] (res r).1 (res r).2
def L1 (x0:api_Table) (r1:List Int) (z0:List ByteArray) (z1:Int) (φ:api_Partition->Prop):Prop:=Pt env 89 W B [1,1,1,0,1,0] [(0,.agg [.lit (.string x0.Name),.sl (x0.Attrs.map eS),.sl (x0.Rows.map Aa2)]),(2,.box [.lit (.string x0.Name),.sl (x0.Attrs.map eS),.sl (x0.Rows.map Aa2)]),(4,.box [.lit (.int .i64 0),.own []]),(5,.own (r1.map (eI .i64))),(6,.own (z0.map eS)),(21,.sl (x0.Rows.map Aa2)),(22,.lit (.int .i64 ((x0.Rows.length:Int)))),(23,.lit (.int .i64 z1))] (Lv env 89 Tryz.f89 2 res φ)
def L2 (x0:api_Table) (r1:List Int) (z0:List ByteArray) (z1:Int) (a3:api_Row) (z2:List UInt8) (z3 z4:Int) (φ:api_Partition->Prop):Prop:=Pt env 89 W B [1,1,1,0,1,0,0,1,1,0,0,1,1,0,1,0] [(0,.agg [.lit (.string x0.Name),.sl (x0.Attrs.map eS),.sl (x0.Rows.map Aa2)]),(2,.box [.lit (.string x0.Name),.sl (x0.Attrs.map eS),.sl (x0.Rows.map Aa2)]),(4,.box [.lit (.int .i64 0),.own []]),(5,.own (r1.map (eI .i64))),(6,.own (z0.map eS)),(7,.lit (.int .i64 z1)),(8,.box [.lit (.int .i64 a3.ID),.sl (a3.Values.map Aa1)]),(9,.bld 159 5 z2),(21,.sl (x0.Rows.map Aa2)),(22,.lit (.int .i64 ((x0.Rows.length:Int)))),(23,.lit (.int .i64 z3)),(28,.alias 5 []),(29,.lit (.int .i64 ((r1.length:Int)))),(30,.lit (.int .i64 z4))] (Lv env 89 Tryz.f89 2 res φ)
theorem L1_step (x0:api_Table) (r1:List Int) (z0:List ByteArray) (z1:Int) (φ:api_Partition->Prop) (h :
 (if z1<(x0.Rows.length:Int) then
 ∃ a3,lget x0.Rows z1=some a3 /\
 q65_.L2 x0 r1 z0 z1 a3 ([]) z1 0 φ
 else
 ∃ r5:List (List Int),q12_.C z0 r5 /\
 φ ((⟨(x0.Rows.length:Int),r5⟩:api_Partition)))):L1 x0 r1 z0 z1 φ:=
 mIn <|
 mAsk 2 h dT dF (fun h=>
 mIx 5 Aa2 h fun a3 h4 h=>
 mLen 10 (eI .i64) r1 <|
 mFin 2 h) fun h=>
 mXit 2 [(0,.agg [.lit (.string x0.Name),.sl (x0.Attrs.map eS),.sl (x0.Rows.map Aa2)]),(2,.box [.lit (.string x0.Name),.sl (x0.Attrs.map eS),.sl (x0.Rows.map Aa2)]),(4,.box [.lit (.int .i64 0),.own []]),(6,.sl (z0.map eS))] (Ay2 (F0:=[(0,.agg [.lit (.string x0.Name),.sl (x0.Attrs.map eS),.sl (x0.Rows.map Aa2)]),(2,.box [.lit (.string x0.Name),.sl (x0.Attrs.map eS),.sl (x0.Rows.map Aa2)]),(4,.box [.lit (.int .i64 0),.own []]),(6,.own (z0.map eS))]) (l:=z0) (e:=eS) (e':=eS) (s:=6) (by kernel_rfl) (by kernel_rfl) (by kernel_rfl) (fun _=>rfl) (by kernel_rfl) (by kernel_rfl)) <|
 mLen 3 Aa2 x0.Rows <|
 mLo 1 h (fun _ h=>h) (hf:=(fun _=>Ayg)) fun r5 _ h=>
 mRet 3 h
theorem L2_step (x0:api_Table) (r1:List Int) (z0:List ByteArray) (z1:Int) (a3:api_Row) (z2:List UInt8) (z3 z4:Int) (φ:api_Partition->Prop) (h :
 (if z4<(r1.length:Int) then
 ∃ a6,lget r1 z4=some a6 /\
 ∃ a8,lget a3.Values a6=some a8 /\
 ∃ r10:ByteArray×Int,q72_.C a8 r10 /\
 z2.length+r10.1.size<=140737488355328 /\
 q65_.L2 x0 r1 z0 z1 a3 ((z2++r10.1.data.toList)) z3 ((IntKind.wrap .i64 (z4+1))) φ
 else
 ∃ a12,lget z0 z1=some a12 /\
 q65_.L1 x0 r1 ((lset z0 z1 (bstr z2))) ((IntKind.wrap .i64 (z3+1))) φ)):L2 x0 r1 z0 z1 a3 z2 z3 z4 φ:=
 mIn <|
 mAsk 2 h dT dF (fun h=>
 mIy 4 (eI .i64) h fun a6 h7 h=>
 mLd 0 (eI .i64) h7 <|
 mIx 6 Aa1 h fun a8 h9 h=>
 mCal 1 h (fun _ h=>h) (hf:=(fun _=>Abf (Adc (Aa5 rfl (Aa5 rfl Abb))) rfl)) fun r10 _ h=>
 h.elim fun h11 h=>
 Azo 8 (show Ret env 117 [.bld 159 5 z2,.lit (.string r10.1)] (.tup [.lit (.int .i64 ((Acw r10.1))),.lit .nilIface]) [.bld 159 5 ((z2++r10.1.data.toList))] from Bc3 (by kernel_rfl) h11) <|
 mFin 5 h) fun h=>
 Azo 6 (show Ret env 118 [.bld 159 5 z2] (.lit (.string ((bstr z2)))) [.box [.undef,.undef]] from Ba4 (by kernel_rfl)) <|
 mIy 0 eS h fun a12 h13 h=>
 mSto 0 eS ((bstr z2)) h13 <|
 mFin 5 h
theorem enter (x0:api_Table) (x1:Int) (φ:api_Partition->Prop) (h :
 ∃ r1:List Int,q49_.C x1 r1 /\
 (0<=(x0.Rows.length:Int)/\(x0.Rows.length:Int)*16<=281474976710656) /\
 q65_.L1 x0 r1 ((List.replicate x0.Rows.length (⟨#[]⟩:ByteArray))) 0 φ):∃ r,φ r/\C x0 x1 r:=
 mEnt (fd:=Tryz.f89) (body:=B) (V:=W) (res:=res) <|
 mCal 6 h (fun _ h=>h) (hf:=(fun _=>Abf (Abu (e:=(eI .i64)) (fun _=>rfl)) rfl)) fun r1 _ h=>
 mLen 5 Aa2 x0.Rows <|
 h.elim fun h2 h=>
 mVl 0 (Aq1 (t:=37) (x:=(.tmp 18)) (y:=(.tmp 18)) (q:=.i64) (i:=(x0.Rows.length:Int)) (et:=9) (z:=.lit (.string ((⟨#[]⟩:ByteArray)))) (e:=eS) (a:=(⟨#[]⟩:ByteArray)) (k:=16) (by kernel_rfl) (by kernel_rfl) (by kernel_rfl) (by kernel_rfl) (by kernel_rfl) (by kernel_rfl) (by kernel_rfl) (by kernel_rfl) (by kernel_rfl) (by kernel_rfl) h2.1 h2.2) <|
 mLen 5 Aa2 x0.Rows <|
 mFin 2 h
end q65_
namespace q41_
noncomputable def B:Code:=(Tryz.f87.body).getD .skip
def W:List Nat:=[0,1,2,4]
def res (r:Bool):D×List D:=(.lit (.bool r),[])
def C (x0:api_Table) (x1:Int) (r:Bool):Prop:=Ret env 87 [.agg [.lit (.string x0.Name),.sl (x0.Attrs.map eS),.sl (x0.Rows.map Aa2)],.lit (.int .u32 x1)] (res r).1 (res r).2
theorem enter (x0:api_Table) (x1:Int) (φ:Bool->Prop) (h :
 0<=(x0.Attrs.length:Int) /\
 φ (((shrw .u64 (IntKind.wrap .u64 x1) (x0.Attrs.length:Int)) == 0))):∃ r,φ r/\C x0 x1 r:=
 mEnt (fd:=Tryz.f87) (body:=B) (V:=W) (res:=res) <|
 mLen 9 eS x0.Attrs <|
 h.elim fun h1 h=>
 mBi 0 (Akq (t:=143) (q:=.u64) (q':=.i64) (i1:=(IntKind.wrap .u64 x1)) h1) <|
 mRet 3 h
end q41_
namespace q60_
end q60_
namespace q42_
end q42_
namespace q73_
noncomputable def B:Code:=(Tryz.f90.body).getD .skip
def W:List Nat:=[0,1,2,4,5,7,8,9,11,12,13,14]
def res (r:ByteArray):D×List D:=(.lit (.string r),[])
def C (x0:api_Row) (x1:Int) (r:ByteArray):Prop:=Ret env 90 [.agg [.lit (.int .i64 x0.ID),.sl (x0.Values.map Aa1)],.lit (.int .u32 x1)] (res r).1 (res r).2
def L1 (x0:api_Row) (z0:ByteArray) (r1:List Int) (z1:Int) (φ:ByteArray->Prop):Prop:=Pt env 90 W B [1,1,0,1,0] [(0,.agg [.lit (.int .i64 x0.ID),.sl (x0.Values.map Aa1)]),(2,.box [.lit (.int .i64 x0.ID),.sl (x0.Values.map Aa1)]),(5,.lit (.string z0)),(11,.own (r1.map (eI .i64))),(12,.lit (.int .i64 ((r1.length:Int)))),(13,.lit (.int .i64 z1))] (Lv env 90 Tryz.f90 2 res φ)
theorem L1_step (x0:api_Row) (z0:ByteArray) (r1:List Int) (z1:Int) (φ:ByteArray->Prop) (h :
 (if z1<(r1.length:Int) then
 ∃ a2,lget r1 z1=some a2 /\
 ∃ a4,lget x0.Values a2=some a4 /\
 ∃ r6:ByteArray×Int,q72_.C a4 r6 /\
 (z0).size+(r6.1).size<=9223372036854775807 /\
 q73_.L1 x0 ((z0++r6.1)) r1 ((IntKind.wrap .i64 (z1+1))) φ
 else
 φ z0)):L1 x0 z0 r1 z1 φ:=
 mIn <|
 mAsk 2 h dT dF (fun h=>
 mIy 4 (eI .i64) h fun a2 h3 h=>
 mLd 0 (eI .i64) h3 <|
 mIx 6 Aa1 h fun a4 h5 h=>
 mCal 1 h (fun _ h=>h) (hf:=(fun _=>Abf (Adc (Aa5 rfl (Aa5 rfl Abb))) rfl)) fun r6 _ h=>
 h.elim fun h7 h=>
 mBi 9 (Beo (t:=9) h7) <|
 mFin 6 h) fun h=>
 mRet 7 h
theorem enter (x0:api_Row) (x1:Int) (φ:ByteArray->Prop) (h :
 ∃ r1:List Int,q49_.C x1 r1 /\
 q73_.L1 x0 ((⟨#[]⟩:ByteArray)) r1 0 φ):∃ r,φ r/\C x0 x1 r:=
 mEnt (fd:=Tryz.f90) (body:=B) (V:=W) (res:=res) <|
 mCal 9 h (fun _ h=>h) (hf:=(fun _=>Abf (Abu (e:=(eI .i64)) (fun _=>rfl)) rfl)) fun r1 _ h=>
 mLen 0 (eI .i64) r1 <|
 mFin 2 h
end q73_
namespace q71_
def res (r:Bool×Int):D×List D:=(.tup [.lit (.bool r.1),.lit (.int .i64 r.2)],[])
def C (x0:api_Table) (x1:api_MVD) (r:Bool×Int):Prop:=Ret env 45 [.agg [.lit (.string x0.Name),.sl (x0.Attrs.map eS),.sl (x0.Rows.map Aa2)],.agg [.lit (.int .u32 x1.Lhs),.lit (.int .u32 x1.Rhs)]] (res r).1 (res r).2
end q71_
namespace q13_
noncomputable def B:Code:=(Tryz.f115.body).getD .skip
def W:List Nat:=[0,1,2,4]
def res (r:Bool):D×List D:=(.lit (.bool r),[])
def C (x0:Int) (k1_0 k2_0:List Int) (r:Bool):Prop:=Ret env 115 [.lit (.int .i64 x0),.ref [.sl (k1_0.map (eI .i64))],.ref [.sl (k2_0.map (eI .i64))]] (res r).1 (res r).2
theorem enter (x0:Int) (k1_0 k2_0:List Int) (φ:Bool->Prop) (h :
 ∃ a1,lget k1_0 x0=some a1 /\
 ∃ a3,lget k2_0 0=some a3 /\
 ∃ a5,lget k1_0 a3=some a5 /\
 φ ((a1 != a5))):∃ r,φ r/\C x0 k1_0 k2_0 r:=
 mEnt (fd:=Tryz.f115) (body:=B) (V:=W) (res:=res) <|
 mIx 6 (eI .i64) h fun a1 h2 h=>
 mIx 3 (eI .i64) h fun a3 h4 h=>
 mIx 1 (eI .i64) h fun a5 h6 h=>
 mRet 4 h
end q13_
namespace q6_
noncomputable def B:Code:=(Tryz.f136.body).getD .skip
def W:List Nat:=[0,1,4,5,7,8,9,16]
def res (r:Int):D×List D:=(.lit (.int .i64 r),[])
def C (x0 k1_0 k1_1:List Int) (r:Int):Prop:=Ret env 136 [.sl (x0.map (eI .i64)),.fn 115 [.ref [.sl (k1_0.map (eI .i64))],.ref [.sl (k1_1.map (eI .i64))]]] (res r).1 (res r).2
def L1 (x0 k1_0 k1_1:List Int) (z0:Int) (φ:Int->Prop):Prop:=Pt env 136 W B [1,0,1,0] [(0,.sl (x0.map (eI .i64))),(1,.fn 115 [.ref [.sl (k1_0.map (eI .i64))],.ref [.sl (k1_1.map (eI .i64))]]),(7,.lit (.int .i64 ((x0.length:Int)))),(8,.lit (.int .i64 z0))] (Lv env 136 Tryz.f136 2 res φ)
theorem L1_step (x0 k1_0 k1_1:List Int) (z0:Int) (φ:Int->Prop) (h :
 (if z0<(x0.length:Int) then
 ∃ a1,lget x0 z0=some a1 /\
 ∃ r3:Bool,q13_.C a1 k1_0 k1_1 r3 /\
 (if r3=true then
 φ z0
 else
 q6_.L1 x0 k1_0 k1_1 ((IntKind.wrap .i64 (z0+1))) φ)
 else
 φ ((-1)))):L1 x0 k1_0 k1_1 z0 φ:=
 mIn <|
 mAsk 2 h dT dF (fun h=>
 mIx 11 (eI .i64) h fun a1 h2 h=>
 Aaw 1 h (fun _ h=>h) (fun _ h=>
 mRet 6 h) fun _ h=>
 mFin 7 h) fun h=>
 mRet 6 h
theorem enter (x0 k1_0 k1_1:List Int) (φ:Int->Prop) (h :
 q6_.L1 x0 k1_0 k1_1 0 φ):∃ r,φ r/\C x0 k1_0 k1_1 r:=
 mEnt (fd:=Tryz.f136) (body:=B) (V:=W) (res:=res) <|
 mLen 5 (eI .i64) x0 <|
 mFin 2 h
end q6_
namespace q4_
noncomputable def B:Code:=(Tryz.f114.body).getD .skip
def W:List Nat:=[0,1,4]
def res (r:Bool):D×List D:=(.lit (.bool r),[])
def C (x0 k1_0 k1_1:List Int) (r:Bool):Prop:=Ret env 114 [.sl (x0.map (eI .i64)),.fn 115 [.ref [.sl (k1_0.map (eI .i64))],.ref [.sl (k1_1.map (eI .i64))]]] (res r).1 (res r).2
theorem enter (x0 k1_0 k1_1:List Int) (φ:Bool->Prop) (h :
 ∃ r1:Int,q6_.C x0 k1_0 k1_1 r1 /\
 φ ((decide (0<=r1)))):∃ r,φ r/\C x0 k1_0 k1_1 r:=
 mEnt (fd:=Tryz.f114) (body:=B) (V:=W) (res:=res) <|
 mCal 6 h (fun _ h=>h) fun r1 _ h=>
 mRet 3 h
end q4_
namespace q18_
noncomputable def B:Code:=(Tryz.f113.body).getD .skip
def W:List Nat:=[0,1,2,3]
def res (r:Bool):D×List D:=(.lit (.bool r),[])
def C (x0 k1_0:List Int) (r:Bool):Prop:=Ret env 113 [.sl (x0.map (eI .i64)),.ref [.sl (k1_0.map (eI .i64))]] (res r).1 (res r).2
theorem enter (x0 k1_0:List Int) (φ:Bool->Prop) (h :
 ∃ r1:Bool,q4_.C x0 k1_0 x0 r1 /\
 φ r1):∃ r,φ r/\C x0 k1_0 r:=
 mEnt (fd:=Tryz.f113) (body:=B) (V:=W) (res:=res) <|
 mCal 7 h (fun _ h=>h) fun r1 _ h=>
 mRet 2 h
end q18_
namespace q7_
noncomputable def B:Code:=(Tryz.f135.body).getD .skip
def W:List Nat:=[0,1,4,5,7,8,9,16]
def res (r:Int):D×List D:=(.lit (.int .i64 r),[])
def C (x0:List (List Int)) (k1_0:List Int) (r:Int):Prop:=Ret env 135 [.sl (x0.map (eSl (eI .i64))),.fn 113 [.ref [.sl (k1_0.map (eI .i64))]]] (res r).1 (res r).2
def L1 (x0:List (List Int)) (k1_0:List Int) (z0:Int) (φ:Int->Prop):Prop:=Pt env 135 W B [1,0,1,0] [(0,.sl (x0.map (eSl (eI .i64)))),(1,.fn 113 [.ref [.sl (k1_0.map (eI .i64))]]),(7,.lit (.int .i64 ((x0.length:Int)))),(8,.lit (.int .i64 z0))] (Lv env 135 Tryz.f135 2 res φ)
theorem L1_step (x0:List (List Int)) (k1_0:List Int) (z0:Int) (φ:Int->Prop) (h :
 (if z0<(x0.length:Int) then
 ∃ a1,lget x0 z0=some a1 /\
 ∃ r3:Bool,q18_.C a1 k1_0 r3 /\
 (if r3=true then
 φ z0
 else
 q7_.L1 x0 k1_0 ((IntKind.wrap .i64 (z0+1))) φ)
 else
 φ ((-1)))):L1 x0 k1_0 z0 φ:=
 mIn <|
 mAsk 2 h dT dF (fun h=>
 mIx 11 (eSl (eI .i64)) h fun a1 h2 h=>
 Aaw 1 h (fun _ h=>h) (fun _ h=>
 mRet 6 h) fun _ h=>
 mFin 7 h) fun h=>
 mRet 6 h
theorem enter (x0:List (List Int)) (k1_0:List Int) (φ:Int->Prop) (h :
 q7_.L1 x0 k1_0 0 φ):∃ r,φ r/\C x0 k1_0 r:=
 mEnt (fd:=Tryz.f135) (body:=B) (V:=W) (res:=res) <|
 mLen 5 (eSl (eI .i64)) x0 <|
 mFin 2 h
end q7_
namespace q5_
noncomputable def B:Code:=(Tryz.f112.body).getD .skip
def W:List Nat:=[0,1,4]
def res (r:Bool):D×List D:=(.lit (.bool r),[])
def C (x0:List (List Int)) (k1_0:List Int) (r:Bool):Prop:=Ret env 112 [.sl (x0.map (eSl (eI .i64))),.fn 113 [.ref [.sl (k1_0.map (eI .i64))]]] (res r).1 (res r).2
theorem enter (x0:List (List Int)) (k1_0:List Int) (φ:Bool->Prop) (h :
 ∃ r1:Int,q7_.C x0 k1_0 r1 /\
 φ ((decide (0<=r1)))):∃ r,φ r/\C x0 k1_0 r:=
 mEnt (fd:=Tryz.f112) (body:=B) (V:=W) (res:=res) <|
 mCal 6 h (fun _ h=>h) fun r1 _ h=>
 mRet 3 h
end q5_
namespace q28_
noncomputable def B:Code:=(Tryz.f88.body).getD .skip
def W:List Nat:=[0,1,2,3,4,5,9]
def res (r:Bool):D×List D:=(.lit (.bool r),[])
def C (x0 x1:api_Partition) (r:Bool):Prop:=Ret env 88 [.agg [.lit (.int .i64 x0.Rows),.sl (x0.Classes.map (eSl (eI .i64)))],.agg [.lit (.int .i64 x1.Rows),.sl (x1.Classes.map (eSl (eI .i64)))]] (res r).1 (res r).2
theorem enter (x0 x1:api_Partition) (φ:Bool->Prop) (h :
 ∃ r1:Int,q58_.C x0 x1 r1 /\
 (if r1=0 then
 ∃ r2:List Int,q40_.C x1 r2 /\
 ∃ r3:Bool,q5_.C x0.Classes r2 r3 /\
 φ ((not r3))
 else
 φ false)):∃ r,φ r/\C x0 x1 r:=
 mEnt (fd:=Tryz.f88) (body:=B) (V:=W) (res:=res) <|
 mCal 8 h (fun _ h=>h) fun r1 _ h=>
 Adh 0 h Ad1 Ad0 (fun h=>
 mRet 5 h) fun h=>
 mCal 5 h (fun _ h=>h) (hf:=(fun _=>Abf (Abu (e:=(eI .i64)) (fun _=>rfl)) rfl)) fun r2 _ h=>
 mCal 7 h (fun _ h=>h) (hr:=by exact (pr_k (Ach (Bgz (Ab4 (Be7 (s:=5) (ps:=[]) (by kernel_rfl) (Adb (Ad6 (e:=(eI .i64)) (e':=(eI .i64)) (fun _=>rfl) r2) Aix)) Age)) Af6))) fun r3 _ h=>
 mRet 3 h
end q28_
end Go.Own
namespace Go.Own
theorem Bcu {a b:api_Partition} (h:Ajt a b=0):Ac8 a=true/\Ac8 b=true/\a.Rows=b.Rows:=by
 unfold Ajt at h
 split at h
 ·split at h
  ·split at h
   ·exact ⟨by assumption,by assumption,by assumption⟩
   ·omega
  ·omega
 ·omega
def Bad1 (l c:List Int) (i:Int):Prop:=lab1 l i≠lab1 l (c.headD 0)
structure In1 (l c:List Int):Prop where
 ne:c≠[]
 has:∀ i∈c,∃ a,lget l i=some a
theorem q13_.spec {l c:List Int} (h:In1 l c) {i:Int} (hi:i∈c):∃ b,q13_.C i l c b/\(b=true↔Bad1 l c i):=by
 obtain ⟨a,ha⟩:=h.has i hi;obtain ⟨h0,hh0⟩:∃ h0,c[0]? = some h0:=by
  match c,h.ne with
  | x::t,_=>exact ⟨x,rfl⟩
 have hd:c.headD 0=h0:=by
  match c,hh0 with
  | x::t,e=>simpa using e
 obtain ⟨b,hb⟩:=h.has h0 (List.mem_of_getElem? hh0);obtain ⟨r,h1,h2⟩:=q13_.enter i l c (fun r=>(r=true↔Bad1 l c i)) (by
  refine ⟨a,ha,h0,by have:=Acg (l:=c) (k:=0);rw [hh0] at this;exact this,b,hb,?_⟩;unfold Bad1;rw [hd,Aye ha,Aye hb]
  simp)
 exact ⟨r,h2,h1⟩
namespace q6_
theorem loop {l c:List Int} (h:In1 l c) (hn:c.length<Big):∀ (r:List Int) (k:Nat),c.drop k=r->(∀ i∈c.take k,¬ Bad1 l c i)->L1 c l c k (fun r=>(0<=r↔∃ i∈c,Bad1 l c i))
 | [],k,hd,hb=>by
  apply L1_step;have hk:=Abs hd;rw [if_neg (by omega)];rw [List.take_of_length_le hk] at hb;constructor
  ·intro h;omega
  ·rintro ⟨i,h1,h2⟩;exact absurd h2 (hb i h1)
 | i::r,k,hd,hb=>by
  apply L1_step;have hk:=Abt hd;have hi:=List.mem_of_getElem? (Aax hd);rw [if_pos (by omega)];obtain ⟨b,h1,h2⟩:=q13_.spec h hi;refine ⟨i,Acs hd,b,h1,?_⟩
  split
  ·rename_i hbt;exact ⟨fun _=>⟨i,hi,h2.1 hbt⟩,fun _=>by omega⟩
  ·rename_i hbf;rw [Aa3 (by unfold Big at hn;omega)];refine loop h hn r (k+1) (Aao hd) fun j hj=>?_;rw [Aej (Aax hd)] at hj;rcases List.mem_append.1 hj with hj | hj
   ·exact hb j hj
   ·simp at hj;subst hj;exact fun hh=>hbf (h2.2 hh)
theorem spec {l c:List Int} (h:In1 l c) (hn:c.length<Big):∃ r,C c l c r/\(0<=r↔∃ i∈c,Bad1 l c i):=by
 obtain ⟨r,h1,h2⟩:=enter c l c (fun r=>(0<=r↔∃ i∈c,Bad1 l c i)) (loop h hn c 0 rfl (by simp));exact ⟨r,h2,h1⟩
end q6_
theorem q4_.spec {l c:List Int} (h:In1 l c) (hn:c.length<Big):∃ b,q4_.C c l c b/\(b=true↔∃ i∈c,Bad1 l c i):=by
 obtain ⟨r,h1,h2⟩:=q4_.enter c l c (fun b=>(b=true↔∃ i∈c,Bad1 l c i)) (by
  obtain ⟨q,q1,q2⟩:=q6_.spec h hn;refine ⟨q,q1,?_⟩
  rw [← q2];simp)
 exact ⟨r,h2,h1⟩
theorem q18_.spec {l c:List Int} (h:In1 l c) (hn:c.length<Big):∃ b,q18_.C c l b/\(b=true↔∃ i∈c,Bad1 l c i):=by
 obtain ⟨r,h1,h2⟩:=q18_.enter c l (fun b=>(b=true↔∃ i∈c,Bad1 l c i)) (q4_.spec h hn);exact ⟨r,h2,h1⟩
def Bad2 (l:List Int) (c:List Int):Prop:=∃ i∈c,Bad1 l c i
namespace q7_
theorem loop {l:List Int} {cs:List (List Int)} (h:∀ c∈cs,In1 l c) (hn:cs.length<Big) (hn2:∀ c∈cs,c.length<Big):∀ (r:List (List Int)) (k:Nat),cs.drop k=r->(∀ c∈cs.take k,¬ Bad2 l c)->L1 cs l k (fun r=>(0<=r↔∃ c∈cs,Bad2 l c))
 | [],k,hd,hb=>by
  apply L1_step;have hk:=Abs hd;rw [if_neg (by omega)];rw [List.take_of_length_le hk] at hb;constructor
  ·intro h;omega
  ·rintro ⟨i,h1,h2⟩;exact absurd h2 (hb i h1)
 | c::r,k,hd,hb=>by
  apply L1_step;have hk:=Abt hd;have hc:=List.mem_of_getElem? (Aax hd);rw [if_pos (by omega)];obtain ⟨b,h1,h2⟩:=q18_.spec (h c hc) (hn2 c hc);refine ⟨c,Acs hd,b,h1,?_⟩
  split
  ·rename_i hbt;exact ⟨fun _=>⟨c,hc,h2.1 hbt⟩,fun _=>by omega⟩
  ·rename_i hbf;rw [Aa3 (by unfold Big at hn;omega)];refine loop h hn hn2 r (k+1) (Aao hd) fun j hj=>?_;rw [Aej (Aax hd)] at hj;rcases List.mem_append.1 hj with hj | hj
   ·exact hb j hj
   ·simp at hj;subst hj;exact fun hh=>hbf (h2.2 hh)
theorem spec {l:List Int} {cs:List (List Int)} (h:∀ c∈cs,In1 l c) (hn:cs.length<Big) (hn2:∀ c∈cs,c.length<Big):∃ r,C cs l r/\(0<=r↔∃ c∈cs,Bad2 l c):=by
 obtain ⟨r,h1,h2⟩:=enter cs l (fun r=>(0<=r↔∃ c∈cs,Bad2 l c)) (loop h hn hn2 cs 0 rfl (by simp));exact ⟨r,h2,h1⟩
end q7_
theorem q5_.spec {l:List Int} {cs:List (List Int)} (h:∀ c∈cs,In1 l c) (hn:cs.length<Big) (hn2:∀ c∈cs,c.length<Big):∃ b,q5_.C cs l b/\(b=true↔∃ c∈cs,Bad2 l c):=by
 obtain ⟨r,h1,h2⟩:=q5_.enter cs l (fun b=>(b=true↔∃ c∈cs,Bad2 l c)) (by
  obtain ⟨q,q1,q2⟩:=q7_.spec h hn hn2;refine ⟨q,q1,?_⟩
  rw [← q2];simp)
 exact ⟨r,h2,h1⟩
def RefP (a b:api_Partition):Prop:=Ajt a b=0/\∀ i j,0<=i/\i<a.Rows->0<=j/\j<a.Rows->Same a i j->Same b i j
theorem q28_.spec {a b:api_Partition} (ha:Ahs a) (hb:Ahs b):∃ r,q28_.C a b r/\(r=true↔RefP a b):=by
 obtain ⟨r,h1,h2⟩:=q28_.enter a b (fun r=>(r=true↔RefP a b)) (by
  refine ⟨_,q58_.spec ha hb,?_⟩
  split
  ·rename_i h0;obtain ⟨va,vb,hr⟩:=Bcu h0;obtain ⟨v1,v2,v3⟩:=Af9.1 va;have hin:∀ c∈a.Classes,In1 (labN b) c:=fun c hc=>⟨fun hn=>by have:=v3.two c hc;rw [hn] at this;simp at this,fun i hi=>Agb (v3.inn c hc i hi).1 (by have:=(v3.inn c hc i hi).2;rw [Apt];omega)⟩
   obtain ⟨q,q1,q2⟩:=q5_.spec hin ha.1 ha.2;refine ⟨_,q40_.spec hb vb,q,q1,?_⟩;have key:(∃ c∈a.Classes,Bad2 (labN b) c)↔¬ RefP a b:=by
    have sm:∀ {i j:Int},0<=i/\i<a.Rows->0<=j/\j<a.Rows->(lab1 (labN b) i=lab1 (labN b) j↔Same b i j):=fun hi hj=>by
     rw [Bdi (by rw [Apt];omega) (by rw [Apt];omega),Bbq vb (by omega) (by omega)]
    constructor
    ·rintro ⟨c,hc,i,hi,hbad⟩ hR;have m1:=v3.inn c hc i hi;have hm:=Bbi (v3.two c hc);have m2:=v3.inn c hc _ hm;exact hbad ((sm m1 m2).2 (hR.2 i _ m1 m2 (.inr ⟨c,hc,hi,hm⟩)))
    ·intro hR;apply Classical.byContradiction;intro hno;apply hR;refine ⟨h0,fun i j hi hj hs=>?_⟩;rcases hs with rfl | ⟨c,hc,h1,h2⟩
     ·exact .inl rfl
     ·have e:∀ k∈c,lab1 (labN b) k=lab1 (labN b) (c.headD 0):=fun k hk=>Classical.byContradiction fun hne=>hno ⟨c,hc,k,hk,hne⟩;exact (sm hi hj).1 ((e i h1).trans (e j h2).symm)
   cases q with
   | true=>simp only [Bool.not_true,Bool.false_eq_true,false_iff];exact key.1 (q2.1 rfl)
   | false=>
    simp only [Bool.not_false,true_iff];exact Classical.byContradiction fun hn=>by have:=q2.2 (key.2 hn);cases this
  ·rename_i h0;simp only [Bool.false_eq_true,false_iff]
   exact fun hR=>h0 hR.1)
 exact ⟨r,h2,h1⟩
structure Lbl (x:api_Partition) (r:List Int):Prop where
 has:∀ c∈x.Classes,∀ i∈c,∃ a,lget r i=some a
namespace drossref08_Removal
end drossref08_Removal
end Go.Own
namespace Go.Own
open Go.Proofs D
set_option maxRecDepth 100000
set_option maxHeartbeats 4000000
namespace q54_
noncomputable def B:Code:=(Tryz.f44.body).getD .skip
def W:List Nat:=[0,1,2,3,4,5,6,10,19]
def res (r:Bool×Int):D×List D:=(.tup [.lit (.bool r.1),.lit (.int .i64 r.2)],[])
def C (x0:api_Table) (x1:api_FD) (r:Bool×Int):Prop:=Ret env 44 [.agg [.lit (.string x0.Name),.sl (x0.Attrs.map eS),.sl (x0.Rows.map Aa2)],.agg [.lit (.int .u32 x1.Lhs),.lit (.int .u32 x1.Rhs)]] (res r).1 (res r).2
theorem enter (x0:api_Table) (x1:api_FD) (φ:Bool×Int->Prop) (h :
 ∃ r1:Int,q69_.C x0 r1 /\
 (if r1=0 then
 ∃ r2:Bool,q41_.C x0 ((bOr .u32 x1.Lhs x1.Rhs)) r2 /\
 (if r2=true then
 ∃ r3:api_Partition,q65_.C x0 x1.Lhs r3 /\
 ∃ r4:api_Partition,q65_.C x0 x1.Rhs r4 /\
 ∃ r5:Bool,q28_.C r3 r4 r5 /\
 φ ((r5,0))
 else
 φ ((false,6)))
 else
 φ ((false,r1)))):∃ r,φ r/\C x0 x1 r:=
 mEnt (fd:=Tryz.f44) (body:=B) (V:=W) (res:=res) <|
 mCal 8 h (fun _ h=>h) fun r1 _ h=>
 Adh 4 h Ad1 Ad0 (fun h=>
 mRet 7 h) fun h=>
 Aaw 10 h (fun _ h=>h) (fun _ h=>
 mLo 8 h (fun _ h=>h) (hf:=(fun _=>Ayg)) fun r3 _ h=>
 mCal 3 h (fun _ h=>h) (hf:=(fun _=>Avh)) fun r4 _ h=>
 mCal 0 h (fun _ h=>h) fun r5 _ h=>
 mRet 3 h) fun _ h=>
 mRet 7 h
end q54_
namespace q14_
noncomputable def B:Code:=(Tryz.f16.body).getD .skip
def W:List Nat:=[0,1,2,3,4,5,6,11,16,47]
def res (r:Bool):D×List D:=(.lit (.bool r),[])
def C (x0:api_Table) (x1:api_FD) (r:Bool):Prop:=Ret env 16 [.agg [.lit (.string x0.Name),.sl (x0.Attrs.map eS),.sl (x0.Rows.map Aa2)],.agg [.lit (.int .u32 x1.Lhs),.lit (.int .u32 x1.Rhs)]] (res r).1 (res r).2
def L1 (x0:api_Table) (x1:api_FD) (z0:Int) (φ:Bool->Prop):Prop:=Pt env 16 W B [1,0,1,0] [(0,.agg [.lit (.string x0.Name),.sl (x0.Attrs.map eS),.sl (x0.Rows.map Aa2)]),(1,.agg [.lit (.int .u32 x1.Lhs),.lit (.int .u32 x1.Rhs)]),(2,.box [.lit (.string x0.Name),.sl (x0.Attrs.map eS),.sl (x0.Rows.map Aa2)]),(3,.box [.lit (.int .u32 x1.Lhs),.lit (.int .u32 x1.Rhs)]),(5,.lit (.int .i64 z0))] (Lv env 16 Tryz.f16 2 res φ)
def L2 (x0:api_Table) (x1:api_FD) (z0 z1:Int) (φ:Bool->Prop):Prop:=Pt env 16 W B [1,0,1,0,0,1,0,0,1,0] [(0,.agg [.lit (.string x0.Name),.sl (x0.Attrs.map eS),.sl (x0.Rows.map Aa2)]),(1,.agg [.lit (.int .u32 x1.Lhs),.lit (.int .u32 x1.Rhs)]),(2,.box [.lit (.string x0.Name),.sl (x0.Attrs.map eS),.sl (x0.Rows.map Aa2)]),(3,.box [.lit (.int .u32 x1.Lhs),.lit (.int .u32 x1.Rhs)]),(5,.lit (.int .i64 z0)),(6,.lit (.int .i64 z1))] (Lv env 16 Tryz.f16 2 res φ)
def L3 (x0:api_Table) (x1:api_FD) (z0 z1:Int) (φ:Bool->Prop):Prop:=Pt env 16 W B [1,0,1,0,0,1,0,0,1,0,0,1,1] [(0,.agg [.lit (.string x0.Name),.sl (x0.Attrs.map eS),.sl (x0.Rows.map Aa2)]),(1,.agg [.lit (.int .u32 x1.Lhs),.lit (.int .u32 x1.Rhs)]),(2,.box [.lit (.string x0.Name),.sl (x0.Attrs.map eS),.sl (x0.Rows.map Aa2)]),(3,.box [.lit (.int .u32 x1.Lhs),.lit (.int .u32 x1.Rhs)]),(5,.lit (.int .i64 z0)),(6,.lit (.int .i64 z1))] (Lv env 16 Tryz.f16 2 res φ)
theorem L1_step (x0:api_Table) (x1:api_FD) (z0:Int) (φ:Bool->Prop) (h :
 (if z0<(x0.Rows.length:Int) then
 q14_.L2 x0 x1 z0 0 φ
 else
 φ true)):L1 x0 x1 z0 φ:=
 mIn <|
 mLen 5 Aa2 x0.Rows <|
 mAsk 0 h dT dF (fun h=>
 mFin 6 h) fun h=>
 mRet 6 h
theorem L2_step (x0:api_Table) (x1:api_FD) (z0 z1:Int) (φ:Bool->Prop) (h :
 (if z1<z0 then
 ∃ a1,lget x0.Rows z0=some a1 /\
 ∃ a3,lget x0.Rows z1=some a3 /\
 ∃ r5:Bool,q35_.C a1 a3 x1.Lhs r5 /\
 (if r5=true then
 ∃ r6:Bool,q35_.C a1 a3 x1.Rhs r6 /\
 (if r6=true then
 q14_.L3 x0 x1 z0 z1 φ
 else
 φ false)
 else
 q14_.L3 x0 x1 z0 z1 φ)
 else
 q14_.L1 x0 x1 ((IntKind.wrap .i64 (z0+1))) φ)):L2 x0 x1 z0 z1 φ:=
 mIn <|
 mAsk 4 h dT dF (fun h=>
 mIx 7 Aa2 h fun a1 h2 h=>
 mIx 4 Aa2 h fun a3 h4 h=>
 Aaw 3 h (fun _ h=>h) (fun _ h=>
 mIxf 4 Aa2 h2 <|
 mIxf 4 Aa2 h4 <|
 Aaw 3 h (fun _ h=>h) (fun _ h=>
 mFin 5 h) fun _ h=>
 mRet 7 h) fun _ h=>
 mFin 19 h) fun h=>
 mFin 8 h
theorem L3_step (x0:api_Table) (x1:api_FD) (z0 z1:Int) (φ:Bool->Prop) (h :
 q14_.L2 x0 x1 z0 ((IntKind.wrap .i64 (z1+1))) φ):L3 x0 x1 z0 z1 φ:=
 mIn <|
 mFin 5 h
theorem enter (x0:api_Table) (x1:api_FD) (φ:Bool->Prop) (h :
 q14_.L1 x0 x1 0 φ):∃ r,φ r/\C x0 x1 r:=
 mEnt (fd:=Tryz.f16) (body:=B) (V:=W) (res:=res) <|
 mFin 8 h
end q14_
namespace q21_
end q21_
namespace q55_
end q55_
namespace q15_
end q15_
namespace q22_
end q22_
namespace q43_
def res (r:Bool):D×List D:=(.lit (.bool r),[])
def C (x0 x1:api_Table) (r:Bool):Prop:=Ret env 25 [.agg [.lit (.string x0.Name),.sl (x0.Attrs.map eS),.sl (x0.Rows.map Aa2)],.agg [.lit (.string x1.Name),.sl (x1.Attrs.map eS),.sl (x1.Rows.map Aa2)]] (res r).1 (res r).2
end q43_
namespace q66_
end q66_
namespace q61_
end q61_
namespace q74_
def res (r:api_Table×Int):D×List D:=(.tup [.agg [.lit (.string r.1.Name),.own (r.1.Attrs.map eS),.own (r.1.Rows.map Ab0)],.lit (.int .i64 r.2)],[])
def C (x0:Int) (x1:List api_FD) (x2:api_FD) (r:api_Table×Int):Prop:=Ret env 28 [.lit (.int .i64 x0),.sl (x1.map Aa4),.agg [.lit (.int .u32 x2.Lhs),.lit (.int .u32 x2.Rhs)]] (res r).1 (res r).2
end q74_
namespace q29_
end q29_
namespace q30_
end q30_
namespace q62_
def res (r:api_Table×Int):D×List D:=(.tup [.agg [.lit (.string r.1.Name),.own (r.1.Attrs.map eS),.own (r.1.Rows.map Ab0)],.lit (.int .i64 r.2)],[])
def C (x0:Int) (x1:List api_FD) (x2:api_FD) (r:api_Table×Int):Prop:=Ret env 29 [.lit (.int .i64 x0),.sl (x1.map Aa4),.agg [.lit (.int .u32 x2.Lhs),.lit (.int .u32 x2.Rhs)]] (res r).1 (res r).2
end q62_
namespace q44_
noncomputable def B:Code:=(Tryz.f15.body).getD .skip
def W:List Nat:=[0,1,2,3,6,7,8,9,10,14,23,27,40]
def res (r:Bool):D×List D:=(.lit (.bool r),[])
def C (x0:api_Table) (x1:List api_FD) (x2:List api_MVD) (r:Bool):Prop:=Ret env 15 [.agg [.lit (.string x0.Name),.sl (x0.Attrs.map eS),.sl (x0.Rows.map Aa2)],.sl (x1.map Aa4),.sl (x2.map Aa6)] (res r).1 (res r).2
def L1 (x0:api_Table) (x1:List api_FD) (x2:List api_MVD) (z0:Int) (φ:Bool->Prop):Prop:=Pt env 15 W B [1,0,1,0] [(0,.agg [.lit (.string x0.Name),.sl (x0.Attrs.map eS),.sl (x0.Rows.map Aa2)]),(1,.sl (x1.map Aa4)),(2,.sl (x2.map Aa6)),(3,.box [.lit (.string x0.Name),.sl (x0.Attrs.map eS),.sl (x0.Rows.map Aa2)]),(7,.lit (.int .i64 z0))] (Lv env 15 Tryz.f15 3 res φ)
def L2 (x0:api_Table) (x2:List api_MVD) (z0:Int) (φ:Bool->Prop):Prop:=Pt env 15 W B [1,1,0,1,0] [(0,.agg [.lit (.string x0.Name),.sl (x0.Attrs.map eS),.sl (x0.Rows.map Aa2)]),(2,.sl (x2.map Aa6)),(3,.box [.lit (.string x0.Name),.sl (x0.Attrs.map eS),.sl (x0.Rows.map Aa2)]),(8,.lit (.int .i64 z0))] (Lv env 15 Tryz.f15 3 res φ)
theorem L1_step (x0:api_Table) (x1:List api_FD) (x2:List api_MVD) (z0:Int) (φ:Bool->Prop) (h :
 (if z0<(x1.length:Int) then
 ∃ a1,lget x1 z0=some a1 /\
 ∃ r3:Bool,q14_.C x0 a1 r3 /\
 (if r3=true then
 q44_.L1 x0 x1 x2 ((IntKind.wrap .i64 (z0+1))) φ
 else
 φ false)
 else
 q44_.L2 x0 x2 0 φ)):L1 x0 x1 x2 z0 φ:=
 mIn <|
 mLen 4 Aa4 x1 <|
 mAsk 0 h dT dF (fun h=>
 mIx 7 Aa4 h fun a1 h2 h=>
 Aaw 1 h (fun _ h=>h) (fun _ h=>
 mFin 9 h) fun _ h=>
 mRet 6 h) fun h=>
 mFin 6 h
theorem L2_step (x0:api_Table) (x2:List api_MVD) (z0:Int) (φ:Bool->Prop) (h :
 (if z0<(x2.length:Int) then
 ∃ a4,lget x2 z0=some a4 /\
 ∃ r6:Bool×Int,q39_.C x0 a4 r6 /\
 (if r6.1=true then
 q44_.L2 x0 x2 ((IntKind.wrap .i64 (z0+1))) φ
 else
 φ false)
 else
 φ true)):L2 x0 x2 z0 φ:=
 mIn <|
 mLen 4 Aa6 x2 <|
 mAsk 0 h dT dF (fun h=>
 mIx 7 Aa6 h fun a4 h5 h=>
 mCal 1 h (fun _ h=>h) (hf:=(fun _=>Abf (Adc (Aa5 rfl (Aa5 rfl Abb))) rfl)) fun r6 _ h=>
 mAsk 7 h id fls (fun h=>
 mFin 9 h) fun h=>
 mRet 6 h) fun h=>
 mRet 6 h
theorem enter (x0:api_Table) (x1:List api_FD) (x2:List api_MVD) (φ:Bool->Prop) (h :
 q44_.L1 x0 x1 x2 0 φ):∃ r,φ r/\C x0 x1 x2 r:=
 mEnt (fd:=Tryz.f15) (body:=B) (V:=W) (res:=res) <|
 mFin 7 h
end q44_
namespace q45_
noncomputable def B:Code:=(Tryz.f17.body).getD .skip
def W:List Nat:=[0,1,2,3,6,7,8,9,11,12,13,15,16,17,21,30,32,33,34,35,45,47,48,49,50,60]
def res (r:Bool×Int):D×List D:=(.tup [.lit (.bool r.1),.lit (.int .i64 r.2)],[])
def C (x0:api_Table) (x1:List api_FD) (x2:List api_MVD) (r:Bool×Int):Prop:=Ret env 17 [.agg [.lit (.string x0.Name),.sl (x0.Attrs.map eS),.sl (x0.Rows.map Aa2)],.sl (x1.map Aa4),.sl (x2.map Aa6)] (res r).1 (res r).2
def L1 (x0:api_Table) (x1:List api_FD) (x2:List api_MVD) (z0:Int) (φ:Bool×Int->Prop):Prop:=Pt env 17 W B [1,1,1,0,1,0] [(0,.agg [.lit (.string x0.Name),.sl (x0.Attrs.map eS),.sl (x0.Rows.map Aa2)]),(1,.sl (x1.map Aa4)),(2,.sl (x2.map Aa6)),(3,.box [.lit (.string x0.Name),.sl (x0.Attrs.map eS),.sl (x0.Rows.map Aa2)]),(32,.sl (x1.map Aa4)),(33,.lit (.int .i64 ((x1.length:Int)))),(34,.lit (.int .i64 z0))] (Lv env 17 Tryz.f17 3 res φ)
def L2 (x0:api_Table) (x2:List api_MVD) (z0:Int) (φ:Bool×Int->Prop):Prop:=Pt env 17 W B [1,1,1,1,0,1,0] [(0,.agg [.lit (.string x0.Name),.sl (x0.Attrs.map eS),.sl (x0.Rows.map Aa2)]),(2,.sl (x2.map Aa6)),(3,.box [.lit (.string x0.Name),.sl (x0.Attrs.map eS),.sl (x0.Rows.map Aa2)]),(47,.sl (x2.map Aa6)),(48,.lit (.int .i64 ((x2.length:Int)))),(49,.lit (.int .i64 z0))] (Lv env 17 Tryz.f17 3 res φ)
theorem L1_step (x0:api_Table) (x1:List api_FD) (x2:List api_MVD) (z0:Int) (φ:Bool×Int->Prop) (h :
 (if z0<(x1.length:Int) then
 ∃ a3,lget x1 z0=some a3 /\
 ∃ r5:Bool×Int,q54_.C x0 a3 r5 /\
 (if r5.1=true then
 q45_.L1 x0 x1 x2 ((IntKind.wrap .i64 (z0+1))) φ
 else
 φ ((false,0)))
 else
 q45_.L2 x0 x2 0 φ)):L1 x0 x1 x2 z0 φ:=
 mIn <|
 mAsk 2 h dT dF (fun h=>
 mIx 4 Aa4 h fun a3 h4 h=>
 mCal 7 h (fun _ h=>h) (hf:=(fun _=>Abf (Adc (Aa5 rfl (Aa5 rfl Abb))) rfl)) fun r5 _ h=>
 mAsk 7 h id fls (fun h=>
 mFin 8 h) fun h=>
 mRet 7 h) fun h=>
 mLen 5 Aa6 x2 <|
 mFin 2 h
theorem L2_step (x0:api_Table) (x2:List api_MVD) (z0:Int) (φ:Bool×Int->Prop) (h :
 (if z0<(x2.length:Int) then
 ∃ a6,lget x2 z0=some a6 /\
 ∃ r8:Bool×Int,q71_.C x0 a6 r8 /\
 (if r8.1=true then
 q45_.L2 x0 x2 ((IntKind.wrap .i64 (z0+1))) φ
 else
 φ ((false,0)))
 else
 φ ((true,0)))):L2 x0 x2 z0 φ:=
 mIn <|
 mAsk 2 h dT dF (fun h=>
 mIx 4 Aa6 h fun a6 h7 h=>
 mCal 7 h (fun _ h=>h) (hf:=(fun _=>Abf (Adc (Aa5 rfl (Aa5 rfl Abb))) rfl)) fun r8 _ h=>
 mAsk 7 h id fls (fun h=>
 mFin 8 h) fun h=>
 mRet 7 h) fun h=>
 mRet 7 h
theorem enter (x0:api_Table) (x1:List api_FD) (x2:List api_MVD) (φ:Bool×Int->Prop) (h :
 ∃ r1:Int,q69_.C x0 r1 /\
 (if r1=0 then
 ∃ r2:Int,q70_.C ((x0.Attrs.length:Int)) x1 x2 r2 /\
 (if r2=0 then
 q45_.L1 x0 x1 x2 0 φ
 else
 φ ((false,r2)))
 else
 φ ((false,r1)))):∃ r,φ r/\C x0 x1 x2 r:=
 mEnt (fd:=Tryz.f17) (body:=B) (V:=W) (res:=res) <|
 mCal 7 h (fun _ h=>h) fun r1 _ h=>
 Adh 4 h Ad1 Ad0 (fun h=>
 mRet 7 h) fun h=>
 mLen 6 eS x0.Attrs <|
 mCal 2 h (fun _ h=>h) fun r2 _ h=>
 Adh 4 h Ad1 Ad0 (fun h=>
 mRet 7 h) fun h=>
 mLen 5 Aa4 x1 <|
 mFin 2 h
end q45_
namespace q16_
noncomputable def B:Code:=(Tryz.f18.body).getD .skip
def W:List Nat:=[0,1,2,3,6,7,8,9,13,22]
def res (r:Bool×Int):D×List D:=(.tup [.lit (.bool r.1),.lit (.int .i64 r.2)],[])
def C (x0:api_Table) (x1:List api_FD) (x2:List api_MVD) (r:Bool×Int):Prop:=Ret env 18 [.agg [.lit (.string x0.Name),.sl (x0.Attrs.map eS),.sl (x0.Rows.map Aa2)],.sl (x1.map Aa4),.sl (x2.map Aa6)] (res r).1 (res r).2
theorem enter (x0:api_Table) (x1:List api_FD) (x2:List api_MVD) (φ:Bool×Int->Prop) (h :
 ∃ r1:Int,q33_.C x0 r1 /\
 (if r1=0 then
 ∃ r2:Int,q37_.C ((x0.Attrs.length:Int)) x1 x2 r2 /\
 (if r2=0 then
 ∃ r3:Bool,q44_.C x0 x1 x2 r3 /\
 φ ((r3,0))
 else
 φ ((false,r2)))
 else
 φ ((false,r1)))):∃ r,φ r/\C x0 x1 x2 r:=
 mEnt (fd:=Tryz.f18) (body:=B) (V:=W) (res:=res) <|
 mCal 7 h (fun _ h=>h) fun r1 _ h=>
 Adh 4 h Ad1 Ad0 (fun h=>
 mRet 7 h) fun h=>
 mLen 6 eS x0.Attrs <|
 mCal 2 h (fun _ h=>h) fun r2 _ h=>
 Adh 4 h Ad1 Ad0 (fun h=>
 mRet 7 h) fun h=>
 mCal 7 h (fun _ h=>h) fun r3 _ h=>
 mRet 3 h
end q16_
namespace q67_
def res (r:api_Table×Int):D×List D:=(.tup [.agg [.lit (.string r.1.Name),.own (r.1.Attrs.map eS),.own (r.1.Rows.map Ab0)],.lit (.int .i64 r.2)],[])
def C (x0:Int) (x1:List api_FD) (x2:List api_MVD) (x3:api_FD) (r:api_Table×Int):Prop:=Ret env 11 [.lit (.int .i64 x0),.sl (x1.map Aa4),.sl (x2.map Aa6),.agg [.lit (.int .u32 x3.Lhs),.lit (.int .u32 x3.Rhs)]] (res r).1 (res r).2
end q67_
namespace q46_
noncomputable def B:Code:=(Tryz.f9.body).getD .skip
def W:List Nat:=[0,1,2,3,4,5,6,7,8,9,10]
def res (r:Bool):D×List D:=(.lit (.bool r),[])
def C  (r:Bool):Prop:=Ret env 9 [] (res r).1 (res r).2
theorem enter  (φ:Bool->Prop) (h :
 ∃ r1:api_Table×Int,q74_.C 3 ([(⟨1,2⟩:api_FD)]) ((⟨1,4⟩:api_FD)) r1 /\
 ∃ r2:api_Table×Int,q62_.C 3 ([(⟨1,2⟩:api_FD)]) ((⟨1,4⟩:api_FD)) r2 /\
 ∃ r3:api_Table×Int,q67_.C 3 ([]) ([(⟨1,2⟩:api_MVD)]) ((⟨1,2⟩:api_FD)) r3 /\
 ∃ r4:api_Table×Int,q74_.C 3 ([(⟨1,2⟩:api_FD)]) ((⟨5,2⟩:api_FD)) r4 /\
 (if r1.2=0 then
 ∃ r5:Bool,q43_.C r1.1 r2.1 r5 /\
 (if r5=true then
 (if (r2.1.Rows.length:Int)=2 then
 (if r3.2=0 then
 ∃ r6:Int,q33_.C r3.1 r6 /\
 (if r6=0 then
 (if (r3.1.Attrs.length:Int)=3 then
 ∃ r7:Bool,q44_.C r3.1 ([]) ([(⟨1,2⟩:api_MVD)]) r7 /\
 (if r7=true then
 ∃ r8:Bool,q14_.C r3.1 ((⟨1,2⟩:api_FD)) r8 /\
 (if r8=true then
 φ false
 else
 φ ((r4.2 == 10)))
 else
 φ false)
 else
 φ false)
 else
 φ false)
 else
 φ false)
 else
 φ false)
 else
 φ false)
 else
 φ false)):∃ r,φ r/\C  r:=
 mEnt (fd:=Tryz.f9) (body:=B) (V:=W) (res:=res) <|
 mCal 11 h (fun _ h=>h) (hr:=by exact (pr_k (Ach (Abw (s:=1) (ps:=[]) (l:=[(⟨1,2⟩:api_FD)]) (e:=Aa4) (e':=Aa4) (fun _=>rfl) (by kernel_rfl)) (pr_k Af6)))) (hf:=(fun _=>Abf (Adc (Aa5 (Alr (Aa5 rfl (Aa5 (Abu (e:=eS) (fun _=>rfl)) (Aa5 (Abu (e:=Ab0) (fun _=>(Aa5 rfl (Aa5 (Abu (e:=Aa1) (fun _=>rfl)) Abb)))) Abb)))) (Aa5 rfl Abb))) rfl)) fun r1 _ h=>
 mCal 10 h (fun _ h=>h) (hr:=by exact (pr_k (Ach (Abw (s:=1) (ps:=[]) (l:=[(⟨1,2⟩:api_FD)]) (e:=Aa4) (e':=Aa4) (fun _=>rfl) (by kernel_rfl)) (pr_k Af6)))) (hf:=(fun _=>Abf (Adc (Aa5 (Alr (Aa5 rfl (Aa5 (Abu (e:=eS) (fun _=>rfl)) (Aa5 (Abu (e:=Ab0) (fun _=>(Aa5 rfl (Aa5 (Abu (e:=Aa1) (fun _=>rfl)) Abb)))) Abb)))) (Aa5 rfl Abb))) rfl)) fun r2 _ h=>
 mCal 15 h (fun _ h=>h) (hr:=by exact (pr_k (pr_k (Ach (Abw (s:=6) (ps:=[]) (l:=[(⟨1,2⟩:api_MVD)]) (e:=Aa6) (e':=Aa6) (fun _=>rfl) (by kernel_rfl)) (pr_k Af6))))) (hf:=(fun _=>Abf (Adc (Aa5 (Alr (Aa5 rfl (Aa5 (Abu (e:=eS) (fun _=>rfl)) (Aa5 (Abu (e:=Ab0) (fun _=>(Aa5 rfl (Aa5 (Abu (e:=Aa1) (fun _=>rfl)) Abb)))) Abb)))) (Aa5 rfl Abb))) rfl)) fun r3 _ h=>
 mCal 10 h (fun _ h=>h) (hr:=by exact (pr_k (Ach (Abw (s:=1) (ps:=[]) (l:=[(⟨1,2⟩:api_FD)]) (e:=Aa4) (e':=Aa4) (fun _=>rfl) (by kernel_rfl)) (pr_k Af6)))) (hf:=(fun _=>Abf (Adc (Aa5 (Alr (Aa5 rfl (Aa5 (Abu (e:=eS) (fun _=>rfl)) (Aa5 (Abu (e:=Ab0) (fun _=>(Aa5 rfl (Aa5 (Abu (e:=Aa1) (fun _=>rfl)) Abb)))) Abb)))) (Aa5 rfl Abb))) rfl)) fun r4 _ h=>
 mAsk 9 h Abz Aby (fun h=>
 Aaw 3 h (fun _ h=>h) (hr:=by exact (Ach (Ajk (Ab4 (d:=.lit (.string r1.1.Name)) (d':=.lit (.string r1.1.Name)) (by kernel_rfl) (Ab4 (d:=.alias 2 [(0,1)]) (d':=.sl (r1.1.Attrs.map eS)) (Abw (s:=2) (ps:=[(0,1)]) (l:=r1.1.Attrs) (e:=eS) (e':=eS) (fun _=>rfl) (by kernel_rfl)) (Ab4 (d:=.alias 2 [(0,2)]) (d':=.sl (r1.1.Rows.map Aa2)) (Abw (s:=2) (ps:=[(0,2)]) (l:=r1.1.Rows) (e:=Ab0) (e':=Aa2) (fun x=>(Adb rfl (Adb (Ad6 (e:=Aa1) (e':=Aa1) (fun _=>rfl) x.Values) Aix))) (by kernel_rfl)) Age)))) (Ach (Ajk (Ab4 (d:=.lit (.string r2.1.Name)) (d':=.lit (.string r2.1.Name)) (by kernel_rfl) (Ab4 (d:=.alias 4 [(0,1)]) (d':=.sl (r2.1.Attrs.map eS)) (Abw (s:=4) (ps:=[(0,1)]) (l:=r2.1.Attrs) (e:=eS) (e':=eS) (fun _=>rfl) (by kernel_rfl)) (Ab4 (d:=.alias 4 [(0,2)]) (d':=.sl (r2.1.Rows.map Aa2)) (Abw (s:=4) (ps:=[(0,2)]) (l:=r2.1.Rows) (e:=Ab0) (e':=Aa2) (fun x=>(Adb rfl (Adb (Ad6 (e:=Aa1) (e':=Aa1) (fun _=>rfl) x.Values) Aix))) (by kernel_rfl)) Age)))) Af6))) (fun _ h=>
 mLen 4 Ab0 r2.1.Rows <|
 mAsk 0 h Abz Aby (fun h=>
 mAsk 3 h Abz Aby (fun h=>
 mCal 3 h (fun _ h=>h) (hr:=by exact (Ach (Ajk (Ab4 (d:=.lit (.string r3.1.Name)) (d':=.lit (.string r3.1.Name)) (by kernel_rfl) (Ab4 (d:=.alias 7 [(0,1)]) (d':=.sl (r3.1.Attrs.map eS)) (Abw (s:=7) (ps:=[(0,1)]) (l:=r3.1.Attrs) (e:=eS) (e':=eS) (fun _=>rfl) (by kernel_rfl)) (Ab4 (d:=.alias 7 [(0,2)]) (d':=.sl (r3.1.Rows.map Aa2)) (Abw (s:=7) (ps:=[(0,2)]) (l:=r3.1.Rows) (e:=Ab0) (e':=Aa2) (fun x=>(Adb rfl (Adb (Ad6 (e:=Aa1) (e':=Aa1) (fun _=>rfl) x.Values) Aix))) (by kernel_rfl)) Age)))) Af6)) fun r6 _ h=>
 mAsk 0 h Abz Aby (fun h=>
 mLen 4 eS r3.1.Attrs <|
 mAsk 0 h Abz Aby (fun h=>
 Aaw 4 h (fun _ h=>h) (hr:=by exact (Ach (Ajk (Ab4 (d:=.lit (.string r3.1.Name)) (d':=.lit (.string r3.1.Name)) (by kernel_rfl) (Ab4 (d:=.alias 7 [(0,1)]) (d':=.sl (r3.1.Attrs.map eS)) (Abw (s:=7) (ps:=[(0,1)]) (l:=r3.1.Attrs) (e:=eS) (e':=eS) (fun _=>rfl) (by kernel_rfl)) (Ab4 (d:=.alias 7 [(0,2)]) (d':=.sl (r3.1.Rows.map Aa2)) (Abw (s:=7) (ps:=[(0,2)]) (l:=r3.1.Rows) (e:=Ab0) (e':=Aa2) (fun x=>(Adb rfl (Adb (Ad6 (e:=Aa1) (e':=Aa1) (fun _=>rfl) x.Values) Aix))) (by kernel_rfl)) Age)))) (pr_k (Ach (Abw (s:=6) (ps:=[]) (l:=[(⟨1,2⟩:api_MVD)]) (e:=Aa6) (e':=Aa6) (fun _=>rfl) (by kernel_rfl)) Af6)))) (fun _ h=>
 Aaw 4 h (fun _ h=>h) (hr:=by exact (Ach (Ajk (Ab4 (d:=.lit (.string r3.1.Name)) (d':=.lit (.string r3.1.Name)) (by kernel_rfl) (Ab4 (d:=.alias 7 [(0,1)]) (d':=.sl (r3.1.Attrs.map eS)) (Abw (s:=7) (ps:=[(0,1)]) (l:=r3.1.Attrs) (e:=eS) (e':=eS) (fun _=>rfl) (by kernel_rfl)) (Ab4 (d:=.alias 7 [(0,2)]) (d':=.sl (r3.1.Rows.map Aa2)) (Abw (s:=7) (ps:=[(0,2)]) (l:=r3.1.Rows) (e:=Ab0) (e':=Aa2) (fun x=>(Adb rfl (Adb (Ad6 (e:=Aa1) (e':=Aa1) (fun _=>rfl) x.Values) Aix))) (by kernel_rfl)) Age)))) (pr_k Af6))) (fun _ h=>
 mRet 8 h) fun _ h=>
 mRet 8 h) fun _ h=>
 mRet 13 h) fun h=>
 mRet 18 h) fun h=>
 mRet 24 h) fun h=>
 mRet 29 h) fun h=>
 mRet 33 h) fun _ h=>
 mRet 39 h) fun h=>
 mRet 43 h
end q46_
namespace drosslaw20_RefuteSatisfies
noncomputable def B:Code:=(Tryz.f4.body).getD .skip
def W:List Nat:=[0,1,2,3,6,7,8,9,10,28]
def res (r:Bool):D×List D:=(.lit (.bool r),[])
def C (x0:api_Table) (x1:List api_FD) (x2:List api_MVD) (r:Bool):Prop:=Ret env 4 [.agg [.lit (.string x0.Name),.sl (x0.Attrs.map eS),.sl (x0.Rows.map Aa2)],.sl (x1.map Aa4),.sl (x2.map Aa6)] (res r).1 (res r).2
def L1  (φ:Bool->Prop):Prop:=Pt env 4 W B [1,0,1,0,0] [] (Lv env 4 Tryz.f4 3 res φ)
theorem L1_step  (φ:Bool->Prop) (h :
 ∃ r6:Bool,q46_.C  r6 /\
 φ r6):L1  φ:=
 mIn <|
 mCal 1 h (fun _ h=>h) fun r6 _ h=>
 mRet 2 h
theorem enter (x0:api_Table) (x1:List api_FD) (x2:List api_MVD) (φ:Bool->Prop) (h :
 ∃ r3:Bool,q46_.C  r3 /\
 (if r3=true then
 (if 12<(x0.Rows.length:Int) then
 drosslaw20_RefuteSatisfies.L1  φ
 else
 (if 10<(x1.length:Int) then
 drosslaw20_RefuteSatisfies.L1  φ
 else
 (if 10<(x2.length:Int) then
 drosslaw20_RefuteSatisfies.L1  φ
 else
 ∃ r4:Bool×Int,q45_.C x0 x1 x2 r4 /\
 ∃ r5:Bool×Int,q16_.C x0 x1 x2 r5 /\
 (if r4.1=r5.1 then
 φ ((r4.2 == r5.2))
 else
 φ false))))
 else
 drosslaw20_RefuteSatisfies.L1  φ)):∃ r,φ r/\C x0 x1 x2 r:=
 mEnt (fd:=Tryz.f4) (body:=B) (V:=W) (res:=res) <|
 Aaw 5 h (fun _ h=>h) (fun _ h=>
 mLen 4 Aa2 x0.Rows <|
 mAsk 0 h dT dF (fun h=>
 mFin 13 h) fun h=>
 mLen 3 Aa4 x1 <|
 mAsk 0 h dT dF (fun h=>
 mFin 8 h) fun h=>
 mLen 3 Aa6 x2 <|
 mAsk 0 h dT dF (fun h=>
 mFin 3 h) fun h=>
 mCal 8 h (fun _ h=>h) (hf:=(fun _=>Abf (Adc (Aa5 rfl (Aa5 rfl Abb))) rfl)) fun r4 _ h=>
 mCal 10 h (fun _ h=>h) (hf:=(fun _=>Abf (Adc (Aa5 rfl (Aa5 rfl Abb))) rfl)) fun r5 _ h=>
 mAsk 9 h Bhc Bhb (fun h=>
 mRet 7 h) fun h=>
 mRet 7 h) fun _ h=>
 mFin 19 h
end drosslaw20_RefuteSatisfies
end Go.Own
