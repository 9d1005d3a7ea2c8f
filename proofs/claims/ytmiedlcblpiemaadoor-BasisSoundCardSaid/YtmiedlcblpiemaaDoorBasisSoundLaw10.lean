/- What the functions answer. No conditions. -/
import Derived.Test.YtmiedlcblpiemaaDoorBase2
import Derived.Test.YtmiedlcblpiemaaDoorOwn26
set_option linter.all false
namespace Go.Own
open Go.Proofs D
set_option maxRecDepth 100000
set_option maxHeartbeats 4000000
namespace q20_
noncomputable def B:Code:=(Tryd.f76.body).getD .skip
def W:List Nat:=[0,1,4,5,7,8,9,16]
def res (r:Int):D×List D:=(.lit (.int .i64 r),[])
def C (x0:List ByteArray) (x1:ByteArray) (r:Int):Prop:=Ret env 76 [.sl (x0.map eS),.lit (.string x1)] (res r).1 (res r).2
def L1 (x0:List ByteArray) (x1:ByteArray) (z0:Int) (φ:Int->Prop):Prop:=Pt env 76 W B [1,0,1,0] [(0,.sl (x0.map eS)),(1,.lit (.string x1)),(7,.lit (.int .i64 ((x0.length:Int)))),(8,.lit (.int .i64 z0))] (Lv env 76 Tryd.f76 2 res φ)
theorem L1_step (x0:List ByteArray) (x1:ByteArray) (z0:Int) (φ:Int->Prop) (h :
 (if z0<(x0.length:Int) then
 ∃ a1,lget x0 z0=some a1 /\
 (if x1.toList=a1.toList then
 φ z0
 else
 q20_.L1 x0 x1 ((IntKind.wrap .i64 (z0+1))) φ)
 else
 φ ((-1)))):L1 x0 x1 z0 φ:=
 mIn <|
 mAsk 2 h dT dF (fun h=>
 mIx 11 eS h fun a1 h2 h=>
 mAsk 1 h Ary Arx (fun h=>
 mRet 6 h) fun h=>
 mFin 7 h) fun h=>
 mRet 6 h
theorem enter (x0:List ByteArray) (x1:ByteArray) (φ:Int->Prop) (h :
 q20_.L1 x0 x1 0 φ):∃ r,φ r/\C x0 x1 r:=
 mEnt (fd:=Tryd.f76) (body:=B) (V:=W) (res:=res) <|
 mLen 5 eS x0 <|
 mFin 2 h
end q20_
namespace q19_
noncomputable def B:Code:=(Tryd.f59.body).getD .skip
def W:List Nat:=[0,1,4]
def res (r:Bool):D×List D:=(.lit (.bool r),[])
def C (x0:List ByteArray) (x1:ByteArray) (r:Bool):Prop:=Ret env 59 [.sl (x0.map eS),.lit (.string x1)] (res r).1 (res r).2
theorem enter (x0:List ByteArray) (x1:ByteArray) (φ:Bool->Prop) (h :
 ∃ r1:Int,q20_.C x0 x1 r1 /\
 φ ((decide (0<=r1)))):∃ r,φ r/\C x0 x1 r:=
 mEnt (fd:=Tryd.f59) (body:=B) (V:=W) (res:=res) <|
 mCal 6 h (fun _ h=>h) fun r1 _ h=>
 mRet 3 h
end q19_
namespace q67_
noncomputable def B:Code:=(Tryd.f58.body).getD .skip
def W:List Nat:=[0,2,3,4,5,16,18,19,20,56]
def res (r:Bool):D×List D:=(.lit (.bool r),[])
def C (x0:ByteArray) (r:Bool):Prop:=Ret env 58 [.lit (.string x0)] (res r).1 (res r).2
def L1 (x0:ByteArray) (z0:Int) (φ:Bool->Prop):Prop:=Pt env 58 W B [1,1,0,1,0] [(0,.lit (.string x0)),(18,.lit (.int .i64 ((Ad8 x0)))),(19,.lit (.int .i64 z0))] (Lv env 58 Tryd.f58 1 res φ)
def L2 (x0:ByteArray) (z0 z1:Int) (z2:Bool) (φ:Bool->Prop):Prop:=Pt env 58 W B [1,1,0,1,0,0,1,1,0,0,1,1,1,0] [(0,.lit (.string x0)),(3,.lit (.int .i64 z0)),(4,.lit (.int .u8 z1)),(5,.lit (.bool z2)),(18,.lit (.int .i64 ((Ad8 x0)))),(19,.lit (.int .i64 z0))] (Lv env 58 Tryd.f58 1 res φ)
def L3 (x0:ByteArray) (z0:Int) (φ:Bool->Prop):Prop:=Pt env 58 W B [1,1,0,1,0,0,1,1,1] [(0,.lit (.string x0)),(18,.lit (.int .i64 ((Ad8 x0)))),(19,.lit (.int .i64 z0))] (Lv env 58 Tryd.f58 1 res φ)
theorem L1_step (x0:ByteArray) (z0:Int) (φ:Bool->Prop) (h :
 (if z0<(Ad8 x0) then
 ∃ b1,((0:Int)<=z0/\x0[(z0).toNat]? = some b1) /\
 (if 97<=(u8i b1) then
 (if (u8i b1)<=122 then
 q67_.L2 x0 z0 ((u8i b1)) true φ
 else
 (if 65<=(u8i b1) then
 (if (u8i b1)<=90 then
 q67_.L2 x0 z0 ((u8i b1)) true φ
 else
 q67_.L2 x0 z0 ((u8i b1)) (((u8i b1) == 95)) φ)
 else
 q67_.L2 x0 z0 ((u8i b1)) (((u8i b1) == 95)) φ))
 else
 (if 65<=(u8i b1) then
 (if (u8i b1)<=90 then
 q67_.L2 x0 z0 ((u8i b1)) true φ
 else
 q67_.L2 x0 z0 ((u8i b1)) (((u8i b1) == 95)) φ)
 else
 q67_.L2 x0 z0 ((u8i b1)) (((u8i b1) == 95)) φ))
 else
 φ true)):L1 x0 z0 φ:=
 mIn <|
 mAsk 2 h dT dF (fun h=>
 mSt 10 h fun b1 h=>
 mAsk 4 h dT dF (fun h=>
 mAsk 2 h dT dF (fun h=>
 mFin 15 h) fun h=>
 mAsk 3 h dT dF (fun h=>
 mAsk 2 h dT dF (fun h=>
 mFin 8 h) fun h=>
 mFin 8 h) fun h=>
 mFin 11 h) fun h=>
 mAsk 6 h dT dF (fun h=>
 mAsk 2 h dT dF (fun h=>
 mFin 8 h) fun h=>
 mFin 8 h) fun h=>
 mFin 11 h) fun h=>
 mRet 6 h
theorem L2_step (x0:ByteArray) (z0 z1:Int) (z2:Bool) (φ:Bool->Prop) (h :
 (if z2=true then
 q67_.L3 x0 z0 φ
 else
 (if z0=0 then
 φ false
 else
 (if z1<48 then
 φ false
 else
 (if 57<z1 then
 φ false
 else
 q67_.L3 x0 z0 φ))))):L2 x0 z0 z1 z2 φ:=
 mIn <|
 mAsk 1 h id fls (fun h=>
 mFin 16 h) fun h=>
 mAsk 3 h Aaz Aay (fun h=>
 mRet 14 h) fun h=>
 mAsk 2 h dT dF (fun h=>
 mRet 11 h) fun h=>
 mAsk 3 h dT dF (fun h=>
 mRet 7 h) fun h=>
 mFin 5 h
theorem L3_step (x0:ByteArray) (z0:Int) (φ:Bool->Prop) (h :
 q67_.L1 x0 ((IntKind.wrap .i64 (z0+1))) φ):L3 x0 z0 φ:=
 mIn <|
 mFin 4 h
theorem enter (x0:ByteArray) (φ:Bool->Prop) (h :
 (if x0.toList=((⟨#[]⟩:ByteArray)).toList then
 φ false
 else
 (if 24<(Ad8 x0) then
 φ false
 else
 (if x0.toList=((⟨#[110,117,108,108]⟩:ByteArray)).toList then
 φ false
 else
 q67_.L1 x0 0 φ)))):∃ r,φ r/\C x0 r:=
 mEnt (fd:=Tryd.f58) (body:=B) (V:=W) (res:=res) <|
 mAsk 5 h Ary Arx (fun h=>
 mRet 14 h) fun h=>
 mAsk 3 h dT dF (fun h=>
 mRet 10 h) fun h=>
 mAsk 3 h Ary Arx (fun h=>
 mRet 6 h) fun h=>
 mFin 9 h
end q67_
namespace q71_
noncomputable def B:Code:=(Tryd.f79.body).getD .skip
def W:List Nat:=[0,1,2,4,5,15,20,31]
def res (r:Bool):D×List D:=(.lit (.bool r),[])
def C (x0:api_Value) (r:Bool):Prop:=Ret env 79 [.agg [.lit (.int .i64 x0.Kind),.lit (.int .i64 x0.Num),.lit (.string x0.Str)]] (res r).1 (res r).2
theorem enter (x0:api_Value) (φ:Bool->Prop) (h :
 (if x0.Kind=0 then
 (if x0.Num=0 then
 φ ((x0.Str.toList == ((⟨#[]⟩:ByteArray)).toList))
 else
 φ false)
 else
 (if x0.Kind=1 then
 φ ((x0.Str.toList == ((⟨#[]⟩:ByteArray)).toList))
 else
 (if x0.Kind=2 then
 (if x0.Num=0 then
 φ ((decide ((Ad8 x0.Str)<=200)))
 else
 φ false)
 else
 (if x0.Kind=3 then
 (if 1<=x0.Num then
 φ ((x0.Str.toList == ((⟨#[]⟩:ByteArray)).toList))
 else
 φ false)
 else
 φ false))))):∃ r,φ r/\C x0 r:=
 mEnt (fd:=Tryd.f79) (body:=B) (V:=W) (res:=res) <|
 mCon 12 h Aaz Aay (fun h=>
 mAsk 3 h Aaz Aay (fun h=>
 mRet 7 h) fun h=>
 mRet 7 h) fun h=>
 mCon 4 h Aaz Aay (fun h=>
 mRet 6 h) fun h=>
 mCon 4 h Aaz Aay (fun h=>
 mAsk 3 h Aaz Aay (fun h=>
 mRet 8 h) fun h=>
 mRet 8 h) fun h=>
 mCon 4 h Aaz Aay (fun h=>
 mAsk 3 h dT dF (fun h=>
 mRet 7 h) fun h=>
 mRet 7 h) fun h=>
 mRet 4 h
end q71_
namespace q25_
noncomputable def B:Code:=(Tryd.f78.body).getD .skip
def W:List Nat:=[0,1,2]
def res (r:Bool):D×List D:=(.lit (.bool r),[])
def C (x0:api_Value) (r:Bool):Prop:=Ret env 78 [.agg [.lit (.int .i64 x0.Kind),.lit (.int .i64 x0.Num),.lit (.string x0.Str)]] (res r).1 (res r).2
theorem enter (x0:api_Value) (φ:Bool->Prop) (h :
 ∃ r1:Bool,q71_.C x0 r1 /\
 φ ((not r1))):∃ r,φ r/\C x0 r:=
 mEnt (fd:=Tryd.f78) (body:=B) (V:=W) (res:=res) <|
 mCal 6 h (fun _ h=>h) fun r1 _ h=>
 mRet 3 h
end q25_
namespace q2_
noncomputable def B:Code:=(Tryd.f92.body).getD .skip
def W:List Nat:=[0,1,4,5,7,8,9,16]
def res (r:Int):D×List D:=(.lit (.int .i64 r),[])
def C (x0:List api_Value) (r:Int):Prop:=Ret env 92 [.sl (x0.map Aa1),.fn 78 []] (res r).1 (res r).2
def L1 (x0:List api_Value) (z0:Int) (φ:Int->Prop):Prop:=Pt env 92 W B [1,0,1,0] [(0,.sl (x0.map Aa1)),(1,.fn 78 []),(7,.lit (.int .i64 ((x0.length:Int)))),(8,.lit (.int .i64 z0))] (Lv env 92 Tryd.f92 2 res φ)
theorem L1_step (x0:List api_Value) (z0:Int) (φ:Int->Prop) (h :
 (if z0<(x0.length:Int) then
 ∃ a1,lget x0 z0=some a1 /\
 ∃ r3:Bool,q25_.C a1 r3 /\
 (if r3=true then
 φ z0
 else
 q2_.L1 x0 ((IntKind.wrap .i64 (z0+1))) φ)
 else
 φ ((-1)))):L1 x0 z0 φ:=
 mIn <|
 mAsk 2 h dT dF (fun h=>
 mIx 11 Aa1 h fun a1 h2 h=>
 Ac2 1 h (fun _ h=>h) (fun _ h=>
 mRet 6 h) fun _ h=>
 mFin 7 h) fun h=>
 mRet 6 h
theorem enter (x0:List api_Value) (φ:Int->Prop) (h :
 q2_.L1 x0 0 φ):∃ r,φ r/\C x0 r:=
 mEnt (fd:=Tryd.f92) (body:=B) (V:=W) (res:=res) <|
 mLen 5 Aa1 x0 <|
 mFin 2 h
end q2_
namespace q0_
noncomputable def B:Code:=(Tryd.f77.body).getD .skip
def W:List Nat:=[0,1,4]
def res (r:Bool):D×List D:=(.lit (.bool r),[])
def C (x0:List api_Value) (r:Bool):Prop:=Ret env 77 [.sl (x0.map Aa1),.fn 78 []] (res r).1 (res r).2
theorem enter (x0:List api_Value) (φ:Bool->Prop) (h :
 ∃ r1:Int,q2_.C x0 r1 /\
 φ ((decide (0<=r1)))):∃ r,φ r/\C x0 r:=
 mEnt (fd:=Tryd.f77) (body:=B) (V:=W) (res:=res) <|
 mCal 6 h (fun _ h=>h) fun r1 _ h=>
 mRet 3 h
end q0_
namespace q29_
noncomputable def B:Code:=(Tryd.f60.body).getD .skip
def W:List Nat:=[0,2]
def res (r:Bool):D×List D:=(.lit (.bool r),[])
def C (x0:List api_Value) (r:Bool):Prop:=Ret env 60 [.sl (x0.map Aa1)] (res r).1 (res r).2
theorem enter (x0:List api_Value) (φ:Bool->Prop) (h :
 ∃ r1:Bool,q0_.C x0 r1 /\
 φ ((not r1))):∃ r,φ r/\C x0 r:=
 mEnt (fd:=Tryd.f60) (body:=B) (V:=W) (res:=res) <|
 mCal 5 h (fun _ h=>h) fun r1 _ h=>
 mRet 3 h
end q29_
namespace q72_
noncomputable def B:Code:=(Tryd.f43.body).getD .skip
def W:List Nat:=[0,1,2,3,4,5,7,11,21,23,24,25,26,40,43,44,45,46,49,54,62]
def res (r:Int):D×List D:=(.lit (.int .i64 r),[])
def C (x0:api_Table) (r:Int):Prop:=Ret env 43 [.agg [.lit (.string x0.Name),.sl (x0.Attrs.map eS),.sl (x0.Rows.map Aa2)]] (res r).1 (res r).2
def L1 (x0:api_Table) (z0:Int) (φ:Int->Prop):Prop:=Pt env 43 W B [1,1,1,0,1,0] [(0,.agg [.lit (.string x0.Name),.sl (x0.Attrs.map eS),.sl (x0.Rows.map Aa2)]),(1,.box [.lit (.string x0.Name),.sl (x0.Attrs.map eS),.sl (x0.Rows.map Aa2)]),(23,.sl (x0.Attrs.map eS)),(24,.lit (.int .i64 ((x0.Attrs.length:Int)))),(25,.lit (.int .i64 z0))] (Lv env 43 Tryd.f43 1 res φ)
def L2 (x0:api_Table) (z0 z1:Int) (φ:Int->Prop):Prop:=Pt env 43 W B [1,1,1,1,1,0,1,0] [(0,.agg [.lit (.string x0.Name),.sl (x0.Attrs.map eS),.sl (x0.Rows.map Aa2)]),(1,.box [.lit (.string x0.Name),.sl (x0.Attrs.map eS),.sl (x0.Rows.map Aa2)]),(5,.lit (.int .i64 z0)),(43,.sl (x0.Rows.map Aa2)),(44,.lit (.int .i64 ((x0.Rows.length:Int)))),(45,.lit (.int .i64 z1))] (Lv env 43 Tryd.f43 1 res φ)
theorem L1_step (x0:api_Table) (z0:Int) (φ:Int->Prop) (h :
 (if z0<(x0.Attrs.length:Int) then
 ∃ a2,lget x0.Attrs z0=some a2 /\
 ∃ r4:Bool,q67_.C a2 r4 /\
 (if r4=true then
 0<=z0 /\
 (0<=z0.toNat/\z0.toNat<=x0.Attrs.length) /\
 ∃ r7:Bool,q19_.C ((List.take (z0.toNat-0) x0.Attrs)) a2 r7 /\
 (if r7=true then
 φ 1
 else
 q72_.L1 x0 ((IntKind.wrap .i64 (z0+1))) φ)
 else
 φ 1)
 else
 q72_.L2 x0 0 0 φ)):L1 x0 z0 φ:=
 mIn <|
 mAsk 2 h dT dF (fun h=>
 mIx 5 eS h fun a2 h3 h=>
 Ac2 6 h (fun _ h=>h) (fun _ h=>
 h.elim fun h5 h=>
 h.elim fun h6 h=>
 mVl 5 (Ao8 (t:=62) (x:=(.tmp 35)) (lo:=none) (hi:=(some (.tmp 36))) (lo':=none) (hi':=some (z0).toNat) (e:=eS) (l:=x0.Attrs) (et:=9) (k:=1) (by kernel_rfl) (by kernel_rfl) Aez (Af0 (i:=z0) (q:=.i64) (by kernel_rfl) h5) (by kernel_rfl) (by kernel_rfl) (fun _=>rfl) (by kernel_rfl) h6.1 h6.2) <|
 Ac2 1 h (fun _ h=>h) (fun _ h=>
 mRet 6 h) fun _ h=>
 mFin 8 h) fun _ h=>
 mRet 14 h) fun h=>
 mLen 9 Aa2 x0.Rows <|
 mFin 2 h
theorem L2_step (x0:api_Table) (z0 z1:Int) (φ:Int->Prop) (h :
 (if z1<(x0.Rows.length:Int) then
 ∃ a8,lget x0.Rows z1=some a8 /\
 (if a8.ID<=z0 then
 φ 1
 else
 (if (a8.Values.length:Int)=(x0.Attrs.length:Int) then
 ∃ r10:Bool,q29_.C a8.Values r10 /\
 (if r10=true then
 q72_.L2 x0 a8.ID ((IntKind.wrap .i64 (z1+1))) φ
 else
 φ 1)
 else
 φ 6))
 else
 φ 0)):L2 x0 z0 z1 φ:=
 mIn <|
 mAsk 2 h dT dF (fun h=>
 mIx 4 Aa2 h fun a8 h9 h=>
 mCon 11 h dT dF (fun h=>
 mRet 3 h) fun h=>
 mLen 3 Aa1 a8.Values <|
 mLen 2 eS x0.Attrs <|
 Be2 3 h Acn Acm (fun h=>
 mRet 3 h) fun h=>
 mCal 3 h (fun _ h=>h) fun r10 _ h=>
 Be2 3 h (fun h=>fls (Bip h)) (fun h=>id (Bio h)) (fun h=>
 mRet 3 h) fun h=>
 mFin 10 h) fun h=>
 mRet 6 h
theorem enter (x0:api_Table) (φ:Int->Prop) (h :
 ∃ r1:Bool,q67_.C x0.Name r1 /\
 (if r1=true then
 (if 16<(x0.Attrs.length:Int) then
 φ 3
 else
 (if 1000<(x0.Rows.length:Int) then
 φ 3
 else
 q72_.L1 x0 0 φ))
 else
 φ 1)):∃ r,φ r/\C x0 r:=
 mEnt (fd:=Tryd.f43) (body:=B) (V:=W) (res:=res) <|
 Ac2 7 h (fun _ h=>h) (fun _ h=>
 mLen 7 eS x0.Attrs <|
 mAsk 0 h dT dF (fun h=>
 mRet 11 h) fun h=>
 mLen 3 Aa2 x0.Rows <|
 mAsk 0 h dT dF (fun h=>
 mRet 6 h) fun h=>
 mLen 7 eS x0.Attrs <|
 mFin 2 h) fun _ h=>
 mRet 6 h
end q72_
namespace q35_
noncomputable def B:Code:=(Tryd.f83.body).getD .skip
def W:List Nat:=[0,1,2,4,5,15,20]
def res (r:Bool):D×List D:=(.lit (.bool r),[])
def C (x0:api_Value) (r:Bool):Prop:=Ret env 83 [.agg [.lit (.int .i64 x0.Kind),.lit (.int .i64 x0.Num),.lit (.string x0.Str)]] (res r).1 (res r).2
theorem enter (x0:api_Value) (φ:Bool->Prop) (h :
 (if x0.Kind=0 then
 (if x0.Num=0 then
 φ ((x0.Str.toList == ((⟨#[]⟩:ByteArray)).toList))
 else
 φ false)
 else
 (if x0.Kind=1 then
 φ ((x0.Str.toList == ((⟨#[]⟩:ByteArray)).toList))
 else
 (if x0.Kind=2 then
 (if x0.Num=0 then
 φ ((decide ((Ad8 x0.Str)<=200)))
 else
 φ false)
 else
 (if x0.Kind=3 then
 (if 1<=x0.Num then
 φ ((x0.Str.toList == ((⟨#[]⟩:ByteArray)).toList))
 else
 φ false)
 else
 φ false))))):∃ r,φ r/\C x0 r:=
 mEnt (fd:=Tryd.f83) (body:=B) (V:=W) (res:=res) <|
 mCon 12 h Aaz Aay (fun h=>
 mAsk 3 h Aaz Aay (fun h=>
 mRet 7 h) fun h=>
 mRet 7 h) fun h=>
 mCon 4 h Aaz Aay (fun h=>
 mRet 6 h) fun h=>
 mCon 4 h Aaz Aay (fun h=>
 mAsk 3 h Aaz Aay (fun h=>
 mRet 8 h) fun h=>
 mRet 8 h) fun h=>
 mAsk 4 h Aaz Aay (fun h=>
 mAsk 3 h dT dF (fun h=>
 mRet 8 h) fun h=>
 mRet 8 h) fun h=>
 mRet 12 h
end q35_
namespace q30_
noncomputable def B:Code:=(Tryd.f64.body).getD .skip
def W:List Nat:=[0,2,3,7,15]
def res (r:Bool):D×List D:=(.lit (.bool r),[])
def C (x0:List api_Value) (r:Bool):Prop:=Ret env 64 [.sl (x0.map Aa1)] (res r).1 (res r).2
def L1 (x0:List api_Value) (z0:Int) (φ:Bool->Prop):Prop:=Pt env 64 W B [1,0,1,0] [(0,.sl (x0.map Aa1)),(3,.lit (.int .i64 z0))] (Lv env 64 Tryd.f64 1 res φ)
theorem L1_step (x0:List api_Value) (z0:Int) (φ:Bool->Prop) (h :
 (if z0<(x0.length:Int) then
 ∃ a1,lget x0 z0=some a1 /\
 ∃ r3:Bool,q35_.C a1 r3 /\
 (if r3=true then
 q30_.L1 x0 ((IntKind.wrap .i64 (z0+1))) φ
 else
 φ false)
 else
 φ true)):L1 x0 z0 φ:=
 mIn <|
 mLen 4 Aa1 x0 <|
 mAsk 0 h dT dF (fun h=>
 mIx 6 Aa1 h fun a1 h2 h=>
 Ac2 1 h (fun _ h=>h) (fun _ h=>
 mFin 9 h) fun _ h=>
 mRet 6 h) fun h=>
 mRet 6 h
theorem enter (x0:List api_Value) (φ:Bool->Prop) (h :
 q30_.L1 x0 0 φ):∃ r,φ r/\C x0 r:=
 mEnt (fd:=Tryd.f64) (body:=B) (V:=W) (res:=res) <|
 mFin 6 h
end q30_
namespace q31_
noncomputable def B:Code:=(Tryd.f81.body).getD .skip
def W:List Nat:=[0,2]
def res (r:Bool):D×List D:=(.lit (.bool r),[])
def C (x0:Int) (r:Bool):Prop:=Ret env 81 [.lit (.int .u8 x0)] (res r).1 (res r).2
theorem enter (x0:Int) (φ:Bool->Prop) (h :
 (if 97<=x0 then
 (if x0<=122 then
 φ true
 else
 (if 65<=x0 then
 (if x0<=90 then
 φ true
 else
 φ ((x0 == 95)))
 else
 φ ((x0 == 95))))
 else
 (if 65<=x0 then
 (if x0<=90 then
 φ true
 else
 φ ((x0 == 95)))
 else
 φ ((x0 == 95))))):∃ r,φ r/\C x0 r:=
 mEnt (fd:=Tryd.f81) (body:=B) (V:=W) (res:=res) <|
 mAsk 5 h dT dF (fun h=>
 mAsk 2 h dT dF (fun h=>
 mRet 15 h) fun h=>
 mAsk 3 h dT dF (fun h=>
 mAsk 2 h dT dF (fun h=>
 mRet 8 h) fun h=>
 mRet 8 h) fun h=>
 mRet 11 h) fun h=>
 mAsk 6 h dT dF (fun h=>
 mAsk 2 h dT dF (fun h=>
 mRet 8 h) fun h=>
 mRet 8 h) fun h=>
 mRet 11 h
end q31_
namespace q45_
noncomputable def B:Code:=(Tryd.f62.body).getD .skip
def W:List Nat:=[0,2,3,21,25,44]
def res (r:Bool):D×List D:=(.lit (.bool r),[])
def C (x0:ByteArray) (r:Bool):Prop:=Ret env 62 [.lit (.string x0)] (res r).1 (res r).2
def L1 (x0:ByteArray) (z0:Int) (φ:Bool->Prop):Prop:=Pt env 62 W B [1,1,0,1,0] [(0,.lit (.string x0)),(3,.lit (.int .i64 z0))] (Lv env 62 Tryd.f62 1 res φ)
def L2 (x0:ByteArray) (z0:Int) (φ:Bool->Prop):Prop:=Pt env 62 W B [1,1,0,1,0,0,1,1] [(0,.lit (.string x0)),(3,.lit (.int .i64 z0))] (Lv env 62 Tryd.f62 1 res φ)
theorem L1_step (x0:ByteArray) (z0:Int) (φ:Bool->Prop) (h :
 (if z0<(Ad8 x0) then
 ∃ b5,((0:Int)<=z0/\x0[(z0).toNat]? = some b5) /\
 ∃ r8:Bool,q31_.C ((u8i b5)) r8 /\
 (if r8=true then
 q45_.L2 x0 z0 φ
 else
 ∃ b9,((0:Int)<=z0/\x0[(z0).toNat]? = some b9) /\
 (if (u8i b9)<48 then
 φ false
 else
 ∃ b12,((0:Int)<=z0/\x0[(z0).toNat]? = some b12) /\
 (if 57<(u8i b12) then
 φ false
 else
 q45_.L2 x0 z0 φ)))
 else
 φ true)):L1 x0 z0 φ:=
 mIn <|
 mAsk 5 h dT dF (fun h=>
 mSt 6 h fun b5 h=>
 Ac2 0 h (fun _ h=>h) (fun _ h=>
 mFin 16 h) fun _ h=>
 mSt 4 h fun b9 h=>
 mAsk 0 h dT dF (fun h=>
 mRet 12 h) fun h=>
 mSt 3 h fun b12 h=>
 mAsk 0 h dT dF (fun h=>
 mRet 7 h) fun h=>
 mFin 5 h) fun h=>
 mRet 6 h
theorem L2_step (x0:ByteArray) (z0:Int) (φ:Bool->Prop) (h :
 q45_.L1 x0 ((IntKind.wrap .i64 (z0+1))) φ):L2 x0 z0 φ:=
 mIn <|
 mFin 5 h
theorem enter (x0:ByteArray) (φ:Bool->Prop) (h :
 (if (Ad8 x0)=0 then
 φ false
 else
 (if 24<(Ad8 x0) then
 φ false
 else
 ∃ b1,((0:Int)<=0/\x0[((0:Int)).toNat]? = some b1) /\
 ∃ r4:Bool,q31_.C ((u8i b1)) r4 /\
 (if r4=true then
 (if x0.toList=((⟨#[110,117,108,108]⟩:ByteArray)).toList then
 φ false
 else
 q45_.L1 x0 0 φ)
 else
 φ false)))):∃ r,φ r/\C x0 r:=
 mEnt (fd:=Tryd.f62) (body:=B) (V:=W) (res:=res) <|
 mAsk 6 h Aaz Aay (fun h=>
 mRet 20 h) fun h=>
 mAsk 3 h dT dF (fun h=>
 mRet 16 h) fun h=>
 mSt 3 h fun b1 h=>
 Ac2 0 h (fun _ h=>h) (fun _ h=>
 mAsk 4 h Ary Arx (fun h=>
 mRet 6 h) fun h=>
 mFin 7 h) fun _ h=>
 mRet 11 h
end q45_
namespace q46_
noncomputable def B:Code:=(Tryd.f82.body).getD .skip
def W:List Nat:=[0,1,4,5,9,17]
def res (r:Int):D×List D:=(.lit (.int .i64 r),[])
def C (x0:List ByteArray) (x1:ByteArray) (r:Int):Prop:=Ret env 82 [.sl (x0.map eS),.lit (.string x1)] (res r).1 (res r).2
def L1 (x0:List ByteArray) (x1:ByteArray) (z0:Int) (φ:Int->Prop):Prop:=Pt env 82 W B [1,0,1,0] [(0,.sl (x0.map eS)),(1,.lit (.string x1)),(5,.lit (.int .i64 z0))] (Lv env 82 Tryd.f82 2 res φ)
theorem L1_step (x0:List ByteArray) (x1:ByteArray) (z0:Int) (φ:Int->Prop) (h :
 (if z0<(x0.length:Int) then
 ∃ a1,lget x0 z0=some a1 /\
 (if a1.toList=x1.toList then
 φ z0
 else
 q46_.L1 x0 x1 ((IntKind.wrap .i64 (z0+1))) φ)
 else
 φ ((-1)))):L1 x0 x1 z0 φ:=
 mIn <|
 mLen 4 eS x0 <|
 mAsk 0 h dT dF (fun h=>
 mIx 6 eS h fun a1 h2 h=>
 mAsk 2 h Ary Arx (fun h=>
 mRet 6 h) fun h=>
 mFin 8 h) fun h=>
 mRet 6 h
theorem enter (x0:List ByteArray) (x1:ByteArray) (φ:Int->Prop) (h :
 q46_.L1 x0 x1 0 φ):∃ r,φ r/\C x0 x1 r:=
 mEnt (fd:=Tryd.f82) (body:=B) (V:=W) (res:=res) <|
 mFin 6 h
end q46_
namespace q36_
noncomputable def B:Code:=(Tryd.f63.body).getD .skip
def W:List Nat:=[0,2,3,7,26]
def res (r:Bool):D×List D:=(.lit (.bool r),[])
def C (x0:List ByteArray) (r:Bool):Prop:=Ret env 63 [.sl (x0.map eS)] (res r).1 (res r).2
def L1 (x0:List ByteArray) (z0:Int) (φ:Bool->Prop):Prop:=Pt env 63 W B [1,0,1,0] [(0,.sl (x0.map eS)),(3,.lit (.int .i64 z0))] (Lv env 63 Tryd.f63 1 res φ)
theorem L1_step (x0:List ByteArray) (z0:Int) (φ:Bool->Prop) (h :
 (if z0<(x0.length:Int) then
 ∃ a1,lget x0 z0=some a1 /\
 ∃ r3:Bool,q45_.C a1 r3 /\
 (if r3=true then
 0<=z0 /\
 (0<=z0.toNat/\z0.toNat<=x0.length) /\
 ∃ r6:Int,q46_.C ((List.take (z0.toNat-0) x0)) a1 r6 /\
 (if 0<=r6 then
 φ false
 else
 q36_.L1 x0 ((IntKind.wrap .i64 (z0+1))) φ)
 else
 φ false)
 else
 φ true)):L1 x0 z0 φ:=
 mIn <|
 mLen 4 eS x0 <|
 mAsk 0 h dT dF (fun h=>
 mIx 6 eS h fun a1 h2 h=>
 Ac2 1 h (fun _ h=>h) (fun _ h=>
 h.elim fun h4 h=>
 h.elim fun h5 h=>
 mVl 4 (Ao8 (t:=62) (x:=(.tmp 17)) (lo:=none) (hi:=(some (.tmp 18))) (lo':=none) (hi':=some (z0).toNat) (e:=eS) (l:=x0) (et:=9) (k:=1) (by kernel_rfl) (by kernel_rfl) Aez (Af0 (i:=z0) (q:=.i64) (by kernel_rfl) h4) (by kernel_rfl) (by kernel_rfl) (fun _=>rfl) (by kernel_rfl) h5.1 h5.2) <|
 mIxf 2 eS h2 <|
 mCal 1 h (fun _ h=>h) fun r6 _ h=>
 mAsk 0 h dT dF (fun h=>
 mRet 6 h) fun h=>
 mFin 9 h) fun _ h=>
 mRet 17 h) fun h=>
 mRet 6 h
theorem enter (x0:List ByteArray) (φ:Bool->Prop) (h :
 q36_.L1 x0 0 φ):∃ r,φ r/\C x0 r:=
 mEnt (fd:=Tryd.f63) (body:=B) (V:=W) (res:=res) <|
 mFin 6 h
end q36_
namespace q37_
noncomputable def B:Code:=(Tryd.f45.body).getD .skip
def W:List Nat:=[0,1,2,3,4,5,9,19,23,28,39,48,52]
def res (r:Int):D×List D:=(.lit (.int .i64 r),[])
def C (x0:api_Table) (r:Int):Prop:=Ret env 45 [.agg [.lit (.string x0.Name),.sl (x0.Attrs.map eS),.sl (x0.Rows.map Aa2)]] (res r).1 (res r).2
def L1 (x0:api_Table) (z0 z1:Int) (φ:Int->Prop):Prop:=Pt env 45 W B [1,1,1,1,1,0,1,0] [(0,.agg [.lit (.string x0.Name),.sl (x0.Attrs.map eS),.sl (x0.Rows.map Aa2)]),(1,.box [.lit (.string x0.Name),.sl (x0.Attrs.map eS),.sl (x0.Rows.map Aa2)]),(3,.lit (.int .i64 z0)),(4,.lit (.int .i64 z1))] (Lv env 45 Tryd.f45 1 res φ)
theorem L1_step (x0:api_Table) (z0 z1:Int) (φ:Int->Prop) (h :
 (if z1<(x0.Rows.length:Int) then
 ∃ a3,lget x0.Rows z1=some a3 /\
 (if a3.ID<=z0 then
 φ 1
 else
 (if (a3.Values.length:Int)=(x0.Attrs.length:Int) then
 ∃ r5:Bool,q30_.C a3.Values r5 /\
 (if r5=true then
 q37_.L1 x0 a3.ID ((IntKind.wrap .i64 (z1+1))) φ
 else
 φ 1)
 else
 φ 6))
 else
 φ 0)):L1 x0 z0 z1 φ:=
 mIn <|
 mLen 5 Aa2 x0.Rows <|
 mAsk 0 h dT dF (fun h=>
 mIx 7 Aa2 h fun a3 h4 h=>
 mAsk 8 h dT dF (fun h=>
 mRet 5 h) fun h=>
 mLen 11 Aa1 a3.Values <|
 mLen 2 eS x0.Attrs <|
 Ad0 0 h Acn Acm (fun h=>
 mRet 5 h) fun h=>
 Ac2 6 h (fun _ h=>h) (fun _ h=>
 mFin 9 h) fun _ h=>
 mRet 6 h) fun h=>
 mRet 6 h
theorem enter (x0:api_Table) (φ:Int->Prop) (h :
 ∃ r1:Bool,q45_.C x0.Name r1 /\
 (if r1=true then
 (if 16<(x0.Attrs.length:Int) then
 φ 3
 else
 (if 1000<(x0.Rows.length:Int) then
 φ 3
 else
 ∃ r2:Bool,q36_.C x0.Attrs r2 /\
 (if r2=true then
 q37_.L1 x0 0 0 φ
 else
 φ 1)))
 else
 φ 1)):∃ r,φ r/\C x0 r:=
 mEnt (fd:=Tryd.f45) (body:=B) (V:=W) (res:=res) <|
 Ac2 7 h (fun _ h=>h) (fun _ h=>
 mLen 7 eS x0.Attrs <|
 mAsk 0 h dT dF (fun h=>
 mRet 11 h) fun h=>
 mLen 3 Aa2 x0.Rows <|
 mAsk 0 h dT dF (fun h=>
 mRet 6 h) fun h=>
 Ac2 7 h (fun _ h=>h) (fun _ h=>
 mFin 10 h) fun _ h=>
 mRet 6 h) fun _ h=>
 mRet 6 h
end q37_
namespace q47_
noncomputable def B:Code:=(Tryd.f51.body).getD .skip
def W:List Nat:=[0,2,3,5]
def res (r:List Int):D×List D:=(.own (r.map (eI .i64)),[])
def C (x0:Int) (r:List Int):Prop:=Ret env 51 [.lit (.int .u32 x0)] (res r).1 (res r).2
def L1 (x0:Int) (z0:List Int) (φ:List Int->Prop):Prop:=Pt env 51 W B [1,1,0,0] [(0,.lit (.int .u32 x0)),(3,.own (z0.map (eI .i64)))] (Lv env 51 Tryd.f51 1 res φ)
theorem L1_step (x0:Int) (z0:List Int) (φ:List Int->Prop) (h :
 (if x0=0 then
 φ z0
 else
 (0<=x0/\x0<4294967296) /\
 (z0.length+1)*8<=140737488355328 /\
 q47_.L1 ((bAnd .u32 x0 (IntKind.wrap .u32 (x0-1)))) ((z0++[(tz32 x0)])) φ)):L1 x0 z0 φ:=
 mIn <|
 Ad0 3 h Acn Acm (fun h=>
 h.elim fun h1 h=>
 Azh 6 (show Ret env 73 [.lit (.int .u32 x0)] (.lit (.int .i64 ((tz32 x0)))) [] from Bbr (by kernel_rfl) h1) <|
 mApp 1 (eI .i64) z0 ([(tz32 x0)]) h fun h=>
 mFin 9 h) fun h=>
 mRet 7 h
theorem enter (x0:Int) (φ:List Int->Prop) (h :
 q47_.L1 x0 ([]) φ):∃ r,φ r/\C x0 r:=
 mEnt (fd:=Tryd.f51) (body:=B) (V:=W) (res:=res) <|
 mFin 6 h
end q47_
namespace q48_
noncomputable def B:Code:=(Tryd.f11.body).getD .skip
def W:List Nat:=[0,2,3,4,11]
def res (r:Int):D×List D:=(.lit (.int .u32 r),[])
def C (x0 r:Int):Prop:=Ret env 11 [.lit (.int .i64 x0)] (res r).1 (res r).2
def L1 (x0 z0 z1:Int) (φ:Int->Prop):Prop:=Pt env 11 W B [1,1,0,1,0] [(0,.lit (.int .i64 x0)),(3,.lit (.int .u32 z0)),(4,.lit (.int .i64 z1))] (Lv env 11 Tryd.f11 1 res φ)
theorem L1_step (x0 z0 z1:Int) (φ:Int->Prop) (h :
 (if z1<x0 then
 (if z1<32 then
 0<=z1 /\
 q48_.L1 x0 ((bOr .u32 z0 (shlw .u32 1 z1))) ((IntKind.wrap .i64 (z1+1))) φ
 else
 φ z0)
 else
 φ z0)):L1 x0 z0 z1 φ:=
 mIn <|
 mAsk 4 h dT dF (fun h=>
 mAsk 2 h dT dF (fun h=>
 h.elim fun h1 h=>
 mBi 7 (Ash (t:=33) (q:=.u32) (q':=.i64) (i1:=1) h1) <|
 mFin 8 h) fun h=>
 mRet 8 h) fun h=>
 mRet 11 h
theorem enter (x0:Int) (φ:Int->Prop) (h :
 q48_.L1 x0 0 0 φ):∃ r,φ r/\C x0 r:=
 mEnt (fd:=Tryd.f11) (body:=B) (V:=W) (res:=res) <|
 mFin 9 h
end q48_
namespace q58_
noncomputable def B:Code:=(Tryd.f85.body).getD .skip
def W:List Nat:=[0,1,4]
def res (r:Bool):D×List D:=(.lit (.bool r),[])
def C (x0 x1:Int) (r:Bool):Prop:=Ret env 85 [.lit (.int .u32 x0),.lit (.int .i64 x1)] (res r).1 (res r).2
theorem enter (x0 x1:Int) (φ:Bool->Prop) (h :
 (if 0<=x1 then
 (if x1<32 then
 0<=x1 /\
 φ (((bAnd .u32 (shrw .u32 x0 x1) 1) == 1))
 else
 φ false)
 else
 φ false)):∃ r,φ r/\C x0 x1 r:=
 mEnt (fd:=Tryd.f85) (body:=B) (V:=W) (res:=res) <|
 mAsk 5 h dT dF (fun h=>
 mAsk 2 h dT dF (fun h=>
 h.elim fun h1 h=>
 mBi 4 (Al2 (t:=33) (q:=.u32) (q':=.i64) (i1:=x0) h1) <|
 mRet 5 h) fun h=>
 mRet 10 h) fun h=>
 mRet 13 h
end q58_
namespace q49_
noncomputable def B:Code:=(Tryd.f94.body).getD .skip
def W:List Nat:=[0,1,4,7,10]
def res (r:Int):D×List D:=(.lit (.int .i64 r),[])
def C (x0 x1 r:Int):Prop:=Ret env 94 [.lit (.int .i64 x0),.lit (.int .i64 x1)] (res r).1 (res r).2
theorem enter (x0 x1:Int) (φ:Int->Prop) (h :
 (if x0<x1 then
 φ ((-1))
 else
 (if x1<x0 then
 φ 1
 else
 φ 0))):∃ r,φ r/\C x0 x1 r:=
 mEnt (fd:=Tryd.f94) (body:=B) (V:=W) (res:=res) <|
 mAsk 6 h dT dF (fun h=>
 mRet 5 h) fun h=>
 mAsk 6 h dT dF (fun h=>
 mRet 5 h) fun h=>
 mRet 6 h
end q49_
namespace q27_
noncomputable def B:Code:=(Tryd.f108.body).getD .skip
def W:List Nat:=[0,1,4,5,15,24]
def res (r:Int):D×List D:=(.lit (.int .i64 r),[])
def C (x0 x1:ByteArray) (r:Int):Prop:=Ret env 108 [.lit (.string x0),.lit (.string x1)] (res r).1 (res r).2
def L1 (x0 x1:ByteArray) (z0:Int) (φ:Int->Prop):Prop:=Pt env 108 W B [1,0,1,0] [(0,.lit (.string x0)),(1,.lit (.string x1)),(5,.lit (.int .i64 z0))] (Lv env 108 Tryd.f108 2 res φ)
def L2 (x0 x1:ByteArray) (φ:Int->Prop):Prop:=Pt env 108 W B [1,1,0] [(0,.lit (.string x0)),(1,.lit (.string x1))] (Lv env 108 Tryd.f108 2 res φ)
theorem L1_step (x0 x1:ByteArray) (z0:Int) (φ:Int->Prop) (h :
 (if z0<(Ad8 x0) then
 (if z0<(Ad8 x1) then
 ∃ b1,((0:Int)<=z0/\x0[(z0).toNat]? = some b1) /\
 ∃ b4,((0:Int)<=z0/\x1[(z0).toNat]? = some b4) /\
 (if (u8i b1)=(u8i b4) then
 q27_.L1 x0 x1 ((IntKind.wrap .i64 (z0+1))) φ
 else
 ∃ b7,((0:Int)<=z0/\x0[(z0).toNat]? = some b7) /\
 ∃ b10,((0:Int)<=z0/\x1[(z0).toNat]? = some b10) /\
 ∃ r13:Int,q49_.C ((IntKind.wrap .i64 (u8i b7))) ((IntKind.wrap .i64 (u8i b10))) r13 /\
 φ r13)
 else
 q27_.L2 x0 x1 φ)
 else
 q27_.L2 x0 x1 φ)):L1 x0 x1 z0 φ:=
 mIn <|
 mAsk 5 h dT dF (fun h=>
 mAsk 4 h dT dF (fun h=>
 mSt 7 h fun b1 h=>
 mSt 2 h fun b4 h=>
 Ad0 0 h Acn Acm (fun h=>
 mSt 5 h fun b7 h=>
 mSt 3 h fun b10 h=>
 mCal 1 h (fun _ h=>h) fun r13 _ h=>
 mRet 2 h) fun h=>
 mFin 8 h) fun h=>
 mFin 4 h) fun h=>
 mFin 9 h
theorem L2_step (x0 x1:ByteArray) (φ:Int->Prop) (h :
 ∃ r14:Int,q49_.C ((Ad8 x0)) ((Ad8 x1)) r14 /\
 φ r14):L2 x0 x1 φ:=
 mIn <|
 mCal 5 h (fun _ h=>h) fun r14 _ h=>
 mRet 2 h
theorem enter (x0 x1:ByteArray) (φ:Int->Prop) (h :
 q27_.L1 x0 x1 0 φ):∃ r,φ r/\C x0 x1 r:=
 mEnt (fd:=Tryd.f108) (body:=B) (V:=W) (res:=res) <|
 mFin 6 h
end q27_
namespace q28_
noncomputable def B:Code:=(Tryd.f93.body).getD .skip
def W:List Nat:=[0,1,2,3,4,5,6,13,21]
def res (r:Int):D×List D:=(.lit (.int .i64 r),[])
def C (x0 x1:api_Value) (r:Int):Prop:=Ret env 93 [.agg [.lit (.int .i64 x0.Kind),.lit (.int .i64 x0.Num),.lit (.string x0.Str)],.agg [.lit (.int .i64 x1.Kind),.lit (.int .i64 x1.Num),.lit (.string x1.Str)]] (res r).1 (res r).2
theorem enter (x0 x1:api_Value) (φ:Int->Prop) (h :
 ∃ r1:Int,q49_.C x0.Kind x1.Kind r1 /\
 (if r1=0 then
 ∃ r2:Int,q49_.C x0.Num x1.Num r2 /\
 (if r2=0 then
 ∃ r3:Int,q27_.C x0.Str x1.Str r3 /\
 φ r3
 else
 φ r2)
 else
 φ r1)):∃ r,φ r/\C x0 x1 r:=
 mEnt (fd:=Tryd.f93) (body:=B) (V:=W) (res:=res) <|
 mCal 10 h (fun _ h=>h) fun r1 _ h=>
 Ad0 4 h Acn Acm (fun h=>
 mRet 6 h) fun h=>
 mCal 8 h (fun _ h=>h) fun r2 _ h=>
 Ad0 4 h Acn Acm (fun h=>
 mRet 6 h) fun h=>
 mCal 8 h (fun _ h=>h) fun r3 _ h=>
 mRet 2 h
end q28_
namespace q38_
noncomputable def B:Code:=(Tryd.f84.body).getD .skip
def W:List Nat:=[0,1,4,5,6,16,29]
def res (r:Int):D×List D:=(.lit (.int .i64 r),[])
def C (x0 x1:List api_Value) (r:Int):Prop:=Ret env 84 [.sl (x0.map Aa1),.sl (x1.map Aa1)] (res r).1 (res r).2
def L1 (x0 x1:List api_Value) (z0:Int) (φ:Int->Prop):Prop:=Pt env 84 W B [1,0,1,0] [(0,.sl (x0.map Aa1)),(1,.sl (x1.map Aa1)),(5,.lit (.int .i64 z0))] (Lv env 84 Tryd.f84 2 res φ)
def L2 (x0 x1:List api_Value) (φ:Int->Prop):Prop:=Pt env 84 W B [1,1,0] [(0,.sl (x0.map Aa1)),(1,.sl (x1.map Aa1))] (Lv env 84 Tryd.f84 2 res φ)
theorem L1_step (x0 x1:List api_Value) (z0:Int) (φ:Int->Prop) (h :
 (if z0<(x0.length:Int) then
 (if z0<(x1.length:Int) then
 ∃ a1,lget x0 z0=some a1 /\
 ∃ a3,lget x1 z0=some a3 /\
 ∃ r5:Int,q28_.C a1 a3 r5 /\
 (if r5=0 then
 q38_.L1 x0 x1 ((IntKind.wrap .i64 (z0+1))) φ
 else
 φ r5)
 else
 q38_.L2 x0 x1 φ)
 else
 q38_.L2 x0 x1 φ)):L1 x0 x1 z0 φ:=
 mIn <|
 mLen 4 Aa1 x0 <|
 mAsk 0 h dT dF (fun h=>
 mLen 3 Aa1 x1 <|
 mAsk 0 h dT dF (fun h=>
 mIx 7 Aa1 h fun a1 h2 h=>
 mIx 3 Aa1 h fun a3 h4 h=>
 mCal 1 h (fun _ h=>h) fun r5 _ h=>
 Ad0 4 h Acn Acm (fun h=>
 mRet 6 h) fun h=>
 mFin 8 h) fun h=>
 mFin 4 h) fun h=>
 mFin 9 h
theorem L2_step (x0 x1:List api_Value) (φ:Int->Prop) (h :
 ∃ r6:Int,q49_.C ((x0.length:Int)) ((x1.length:Int)) r6 /\
 φ r6):L2 x0 x1 φ:=
 mIn <|
 mLen 2 Aa1 x0 <|
 mLen 1 Aa1 x1 <|
 mCal 0 h (fun _ h=>h) fun r6 _ h=>
 mRet 2 h
theorem enter (x0 x1:List api_Value) (φ:Int->Prop) (h :
 q38_.L1 x0 x1 0 φ):∃ r,φ r/\C x0 x1 r:=
 mEnt (fd:=Tryd.f84) (body:=B) (V:=W) (res:=res) <|
 mFin 6 h
end q38_
namespace q50_
noncomputable def B:Code:=(Tryd.f65.body).getD .skip
def W:List Nat:=[0,1,4]
def res (r:Bool):D×List D:=(.lit (.bool r),[])
def C (x0 x1:List api_Value) (r:Bool):Prop:=Ret env 65 [.sl (x0.map Aa1),.sl (x1.map Aa1)] (res r).1 (res r).2
theorem enter (x0 x1:List api_Value) (φ:Bool->Prop) (h :
 ∃ r1:Int,q38_.C x0 x1 r1 /\
 φ ((r1 == 0))):∃ r,φ r/\C x0 x1 r:=
 mEnt (fd:=Tryd.f65) (body:=B) (V:=W) (res:=res) <|
 mCal 6 h (fun _ h=>h) fun r1 _ h=>
 mRet 3 h
end q50_
namespace q68_
noncomputable def B:Code:=(Tryd.f80.body).getD .skip
def W:List Nat:=[0,1,4,5,6,11]
def res (r:List Int):D×List D:=(.own (r.map (eI .u8)),[])
def C (x1:Int) (k0_0 r:List Int):Prop:=Ret env 80 [.own (k0_0.map (eI .u8)),.lit (.int .i64 x1)] (res r).1 (res r).2
def L1 (k0_0:List Int) (z0 z1:Int) (φ:List Int->Prop):Prop:=Pt env 80 W B [1,1,0,1,0] [(0,.own (k0_0.map (eI .u8))),(5,.lit (.int .u64 z0)),(6,.lit (.int .i64 z1))] (Lv env 80 Tryd.f80 2 res φ)
theorem L1_step (k0_0:List Int) (z0 z1:Int) (φ:List Int->Prop) (h :
 (if 0<=z1 then
 0<=z1 /\
 (k0_0.length+1)*1<=140737488355328 /\
 q68_.L1 ((k0_0++[(IntKind.wrap .u8 (shrw .u64 z0 z1))])) z0 ((IntKind.wrap .i64 (z1-8))) φ
 else
 φ k0_0)):L1 k0_0 z0 z1 φ:=
 mIn <|
 mAsk 3 h dT dF (fun h=>
 h.elim fun h1 h=>
 mBi 7 (Al2 (t:=140) (q:=.u64) (q':=.i64) (i1:=z0) h1) <|
 mApp 2 (eI .u8) k0_0 ([(IntKind.wrap .u8 (shrw .u64 z0 z1))]) h fun h=>
 mFin 7 h) fun h=>
 mRet 7 h
theorem enter (x1:Int) (k0_0:List Int) (φ:List Int->Prop) (h :
 q68_.L1 k0_0 ((bXor .u64 (IntKind.wrap .u64 x1) 9223372036854775808)) 56 φ):∃ r,φ r/\C x1 k0_0 r:=
 mEnt (fd:=Tryd.f80) (body:=B) (V:=W) (res:=res) <|
 mFin 12 h
end q68_
namespace q78_
noncomputable def B:Code:=(Tryd.f61.body).getD .skip
def W:List Nat:=[0,1,2,3,4,5,8,14,15,22,26,27,28,41]
def res (r:ByteArray×Int):D×List D:=(.tup [.lit (.string r.1),.lit (.int .i64 r.2)],[])
def C (x0:api_Value) (r:ByteArray×Int):Prop:=Ret env 61 [.agg [.lit (.int .i64 x0.Kind),.lit (.int .i64 x0.Num),.lit (.string x0.Str)]] (res r).1 (res r).2
def L2 (x0:api_Value) (z0:Bool) (φ:ByteArray×Int->Prop):Prop:=Pt env 61 W B [1,1,1,0,1,0,1,0] [(0,.agg [.lit (.int .i64 x0.Kind),.lit (.int .i64 x0.Num),.lit (.string x0.Str)]),(1,.box [.lit (.int .i64 x0.Kind),.lit (.int .i64 x0.Num),.lit (.string x0.Str)]),(4,.own (([(IntKind.wrap .u8 x0.Kind)]).map (eI .u8))),(14,.lit (.int .i64 x0.Kind)),(15,.lit (.bool z0))] (Lv env 61 Tryd.f61 1 res φ)
def L3 (x0:api_Value) (φ:ByteArray×Int->Prop):Prop:=Pt env 61 W B [1,1,1,0,1,0,1,1,0] [(0,.agg [.lit (.int .i64 x0.Kind),.lit (.int .i64 x0.Num),.lit (.string x0.Str)]),(1,.box [.lit (.int .i64 x0.Kind),.lit (.int .i64 x0.Num),.lit (.string x0.Str)]),(4,.own (([(IntKind.wrap .u8 x0.Kind)]).map (eI .u8))),(14,.lit (.int .i64 x0.Kind))] (Lv env 61 Tryd.f61 1 res φ)
def L1 (x0:api_Value) (z0:List Int) (z1:Int) (φ:ByteArray×Int->Prop):Prop:=Pt env 61 W B [1,1,1,0,1,0,1,1,1,0,0,1,0] [(0,.agg [.lit (.int .i64 x0.Kind),.lit (.int .i64 x0.Num),.lit (.string x0.Str)]),(1,.box [.lit (.int .i64 x0.Kind),.lit (.int .i64 x0.Num),.lit (.string x0.Str)]),(4,.own (z0.map (eI .u8))),(26,.lit (.int .i64 ((Ad8 x0.Str)))),(27,.lit (.int .i64 z1))] (Lv env 61 Tryd.f61 1 res φ)
def L4 (x0:api_Value) (z0:List Int) (z1:Int) (φ:ByteArray×Int->Prop):Prop:=Pt env 61 W B [1,1,1,0,1,0,1,1,1,0,0,1,0,0,1,1,1] [(0,.agg [.lit (.int .i64 x0.Kind),.lit (.int .i64 x0.Num),.lit (.string x0.Str)]),(1,.box [.lit (.int .i64 x0.Kind),.lit (.int .i64 x0.Num),.lit (.string x0.Str)]),(4,.own (z0.map (eI .u8))),(26,.lit (.int .i64 ((Ad8 x0.Str)))),(27,.lit (.int .i64 z1))] (Lv env 61 Tryd.f61 1 res φ)
theorem L2_step (x0:api_Value) (z0:Bool) (φ:ByteArray×Int->Prop) (h :
 ∃ r2:List Int,q68_.C x0.Num ([(IntKind.wrap .u8 x0.Kind)]) r2 /\
 (∀ x∈r2,0<=x/\x<256) /\
 φ (((Ak4 r2),0))):L2 x0 z0 φ:=
 mIn <|
 mCal 4 h (fun _ h=>h) (hf:=(fun _=>Ab0 (Ab3 (e:=(eI .u8)) (fun _=>rfl)) rfl)) fun r2 _ h=>
 h.elim fun h3 h=>
 mVl 4 (Ao9 (s:=119) (t:=9) (et:=5) (x:=(.tmp 49)) (d:=.alias 4 []) (l:=r2) (by kernel_rfl) (by kernel_rfl) (Afs (by kernel_rfl)) (by kernel_rfl) (by kernel_rfl) (by kernel_rfl) h3) <|
 mRet 3 h
theorem L3_step (x0:api_Value) (φ:ByteArray×Int->Prop) (h :
 (if x0.Kind=2 then
 q78_.L1 x0 ([(IntKind.wrap .u8 x0.Kind)]) 0 φ
 else
 (∀ x∈([(IntKind.wrap .u8 x0.Kind)]),0<=x/\x<256) /\
 φ (((Ak4 [(IntKind.wrap .u8 x0.Kind)]),0)))):L3 x0 φ:=
 mIn <|
 mCon 4 h Aaz Aay (fun h=>
 mFin 6 h) fun h=>
 h.elim fun h4 h=>
 mVl 3 (Ao9 (s:=119) (t:=9) (et:=5) (x:=(.tmp 49)) (d:=.alias 4 []) (l:=[(IntKind.wrap .u8 x0.Kind)]) (by kernel_rfl) (by kernel_rfl) (Afs (by kernel_rfl)) (by kernel_rfl) (by kernel_rfl) (by kernel_rfl) h4) <|
 mRet 3 h
theorem L1_step (x0:api_Value) (z0:List Int) (z1:Int) (φ:ByteArray×Int->Prop) (h :
 (if z1<(Ad8 x0.Str) then
 ∃ b5,((0:Int)<=z1/\x0.Str[(z1).toNat]? = some b5) /\
 (z0.length+1)*1<=140737488355328 /\
 ∃ b9,((0:Int)<=z1/\x0.Str[(z1).toNat]? = some b9) /\
 (if (u8i b9)=0 then
 (((z0++[(u8i b5)])).length+1)*1<=140737488355328 /\
 q78_.L4 x0 (((z0++[(u8i b5)])++[255])) z1 φ
 else
 q78_.L4 x0 ((z0++[(u8i b5)])) z1 φ)
 else
 (z0.length+2)*1<=140737488355328 /\
 (∀ x∈((z0++[0,1])),0<=x/\x<256) /\
 φ (((Ak4 (z0++[0,1])),0)))):L1 x0 z0 z1 φ:=
 mIn <|
 mAsk 2 h dT dF (fun h=>
 mSt 12 h fun b5 h=>
 mApp 1 (eI .u8) z0 ([(u8i b5)]) h fun h=>
 mSt 6 h fun b9 h=>
 mAsk 0 h Aaz Aay (fun h=>
 mApp 5 (eI .u8) ((z0++[(u8i b5)])) ([255]) h fun h=>
 mFin 2 h) fun h=>
 mFin 3 h) fun h=>
 mApp 6 (eI .u8) z0 ([0,1]) h fun h=>
 h.elim fun h14 h=>
 mVl 4 (Ao9 (s:=119) (t:=9) (et:=5) (x:=(.tmp 49)) (d:=.alias 4 []) (l:=(z0++[0,1])) (by kernel_rfl) (by kernel_rfl) (Afs (by kernel_rfl)) (by kernel_rfl) (by kernel_rfl) (by kernel_rfl) h14) <|
 mRet 3 h
theorem L4_step (x0:api_Value) (z0:List Int) (z1:Int) (φ:ByteArray×Int->Prop) (h :
 q78_.L1 x0 z0 ((IntKind.wrap .i64 (z1+1))) φ):L4 x0 z0 z1 φ:=
 mIn <|
 mFin 4 h
theorem enter (x0:api_Value) (φ:ByteArray×Int->Prop) (h :
 ∃ r1:Bool,q71_.C x0 r1 /\
 (if r1=true then
 (if x0.Kind=1 then
 (if x0.Kind=1 then
 q78_.L2 x0 ((x0.Kind == 1)) φ
 else
 q78_.L3 x0 φ)
 else
 (if x0.Kind=3 then
 q78_.L2 x0 ((x0.Kind == 3)) φ
 else
 q78_.L3 x0 φ))
 else
 φ (((⟨#[]⟩:ByteArray),1)))):∃ r,φ r/\C x0 r:=
 mEnt (fd:=Tryd.f61) (body:=B) (V:=W) (res:=res) <|
 Ac2 7 h (fun _ h=>h) (fun _ h=>
 mCon 19 h Aaz Aay (fun h=>
 mCon 1 h Aaz Aay (fun h=>
 mFin 0 h) fun h=>
 mFin 0 h) fun h=>
 mCon 4 h Aaz Aay (fun h=>
 mFin 0 h) fun h=>
 mFin 0 h) fun _ h=>
 mRet 7 h
end q78_
namespace q32_
noncomputable def B:Code:=(Tryd.f66.body).getD .skip
def W:List Nat:=[0,1,2,4,5,6,11,16]
def res (r:List api_Value):D×List D:=(.own (r.map Aa1),[])
def C (x0:api_Row) (x1:Int) (r:List api_Value):Prop:=Ret env 66 [.agg [.lit (.int .i64 x0.ID),.sl (x0.Values.map Aa1)],.lit (.int .u32 x1)] (res r).1 (res r).2
def L1 (x0:api_Row) (x1:Int) (z0:List api_Value) (z1:Int) (φ:List api_Value->Prop):Prop:=Pt env 66 W B [1,1,0,1,0] [(0,.agg [.lit (.int .i64 x0.ID),.sl (x0.Values.map Aa1)]),(1,.lit (.int .u32 x1)),(2,.box [.lit (.int .i64 x0.ID),.sl (x0.Values.map Aa1)]),(5,.own (z0.map Aa1)),(6,.lit (.int .i64 z1))] (Lv env 66 Tryd.f66 2 res φ)
def L2 (x0:api_Row) (x1:Int) (z0:List api_Value) (z1:Int) (φ:List api_Value->Prop):Prop:=Pt env 66 W B [1,1,0,1,0,0,1,1] [(0,.agg [.lit (.int .i64 x0.ID),.sl (x0.Values.map Aa1)]),(1,.lit (.int .u32 x1)),(2,.box [.lit (.int .i64 x0.ID),.sl (x0.Values.map Aa1)]),(5,.own (z0.map Aa1)),(6,.lit (.int .i64 z1))] (Lv env 66 Tryd.f66 2 res φ)
theorem L1_step (x0:api_Row) (x1:Int) (z0:List api_Value) (z1:Int) (φ:List api_Value->Prop) (h :
 (if z1<(x0.Values.length:Int) then
 ∃ r1:Bool,q58_.C x1 z1 r1 /\
 (if r1=true then
 ∃ a2,lget x0.Values z1=some a2 /\
 (z0.length+1)*32<=140737488355328 /\
 q32_.L2 x0 x1 ((z0++[a2])) z1 φ
 else
 q32_.L2 x0 x1 z0 z1 φ)
 else
 φ z0)):L1 x0 x1 z0 z1 φ:=
 mIn <|
 mLen 5 Aa1 x0.Values <|
 mAsk 0 h dT dF (fun h=>
 Ac2 6 h (fun _ h=>h) (fun _ h=>
 mIx 7 Aa1 h fun a2 h3 h=>
 mApp 2 Aa1 z0 ([a2]) h fun h=>
 mFin 2 h) fun _ h=>
 mFin 3 h) fun h=>
 mRet 7 h
theorem L2_step (x0:api_Row) (x1:Int) (z0:List api_Value) (z1:Int) (φ:List api_Value->Prop) (h :
 q32_.L1 x0 x1 z0 ((IntKind.wrap .i64 (z1+1))) φ):L2 x0 x1 z0 z1 φ:=
 mIn <|
 mFin 5 h
theorem enter (x0:api_Row) (x1:Int) (φ:List api_Value->Prop) (h :
 q32_.L1 x0 x1 ([]) 0 φ):∃ r,φ r/\C x0 x1 r:=
 mEnt (fd:=Tryd.f66) (body:=B) (V:=W) (res:=res) <|
 mFin 10 h
end q32_
namespace q39_
noncomputable def B:Code:=(Tryd.f46.body).getD .skip
def W:List Nat:=[0,1,2,3,4,6]
def res (r:Bool):D×List D:=(.lit (.bool r),[])
def C (x0 x1:api_Row) (x2:Int) (r:Bool):Prop:=Ret env 46 [.agg [.lit (.int .i64 x0.ID),.sl (x0.Values.map Aa1)],.agg [.lit (.int .i64 x1.ID),.sl (x1.Values.map Aa1)],.lit (.int .u32 x2)] (res r).1 (res r).2
theorem enter (x0 x1:api_Row) (x2:Int) (φ:Bool->Prop) (h :
 ∃ r1:List api_Value,q32_.C x0 x2 r1 /\
 ∃ r2:List api_Value,q32_.C x1 x2 r2 /\
 ∃ r3:Bool,q50_.C r1 r2 r3 /\
 φ r3):∃ r,φ r/\C x0 x1 x2 r:=
 mEnt (fd:=Tryd.f46) (body:=B) (V:=W) (res:=res) <|
 mLo 8 h (fun _ h=>h) (hf:=(fun _=>Aq2 (Ab3 (e:=Aa1) (fun _=>rfl)))) fun r1 _ h=>
 mCal 2 h (fun _ h=>h) (hf:=(fun _=>Ab0 (Ab3 (e:=Aa1) (fun _=>rfl)) rfl)) fun r2 _ h=>
 mCal 0 h (fun _ h=>h) (hr:=by exact (Afz (Ag4 (s:=9) (ps:=[]) (l:=r1) (e:=Aa1) (e':=Aa1) (fun _=>rfl) (by kernel_rfl)) (Afz (Ag4 (s:=12) (ps:=[]) (l:=r2) (e:=Aa1) (e':=Aa1) (fun _=>rfl) (by kernel_rfl)) Anu))) fun r3 _ h=>
 mRet 2 h
end q39_
namespace q59_
noncomputable def B:Code:=(Tryd.f21.body).getD .skip
def W:List Nat:=[0,1,4]
def res (r:Bool):D×List D:=(.lit (.bool r),[])
def C (x0 x1:Int) (r:Bool):Prop:=Ret env 21 [.lit (.int .u32 x0),.lit (.int .u32 x1)] (res r).1 (res r).2
theorem enter (x0 x1:Int) (φ:Bool->Prop) (h :
 φ (((bAnd .u32 x0 x1) == x0))):∃ r,φ r/\C x0 x1 r:=
 mEnt (fd:=Tryd.f21) (body:=B) (V:=W) (res:=res) <|
 mRet 11 h
end q59_
namespace q60_
noncomputable def B:Code:=(Tryd.f68.body).getD .skip
def W:List Nat:=[0,1,4,6,12,15,16,17,18,19,29]
def res (r:Int):D×List D:=(.lit (.int .i64 r),[])
def C (x0:Int) (x1:List api_FD) (r:Int):Prop:=Ret env 68 [.lit (.int .i64 x0),.sl (x1.map Aa4)] (res r).1 (res r).2
def L1 (x0:Int) (x1:List api_FD) (z0:Int) (φ:Int->Prop):Prop:=Pt env 68 W B [1,1,1,0,1,0] [(0,.lit (.int .i64 x0)),(1,.sl (x1.map Aa4)),(16,.sl (x1.map Aa4)),(17,.lit (.int .i64 ((x1.length:Int)))),(18,.lit (.int .i64 z0))] (Lv env 68 Tryd.f68 2 res φ)
theorem L1_step (x0:Int) (x1:List api_FD) (z0:Int) (φ:Int->Prop) (h :
 (if z0<(x1.length:Int) then
 ∃ a1,lget x1 z0=some a1 /\
 0<=x0 /\
 (if (shrw .u32 (bOr .u32 a1.Lhs a1.Rhs) x0)=0 then
 q60_.L1 x0 x1 ((IntKind.wrap .i64 (z0+1))) φ
 else
 φ 1)
 else
 φ 0)):L1 x0 x1 z0 φ:=
 mIn <|
 mAsk 2 h dT dF (fun h=>
 mIx 4 Aa4 h fun a1 h2 h=>
 h.elim fun h3 h=>
 mBi 11 (Al2 (t:=33) (q:=.u32) (q':=.i64) (i1:=(bOr .u32 a1.Lhs a1.Rhs)) h3) <|
 Ad0 0 h Acn Acm (fun h=>
 mRet 5 h) fun h=>
 mFin 7 h) fun h=>
 mRet 6 h
theorem enter (x0:Int) (x1:List api_FD) (φ:Int->Prop) (h :
 (if x0<0 then
 φ 7
 else
 (if 16<x0 then
 φ 7
 else
 (if 64<(x1.length:Int) then
 φ 3
 else
 q60_.L1 x0 x1 0 φ)))):∃ r,φ r/\C x0 x1 r:=
 mEnt (fd:=Tryd.f68) (body:=B) (V:=W) (res:=res) <|
 mAsk 5 h dT dF (fun h=>
 mRet 9 h) fun h=>
 mAsk 2 h dT dF (fun h=>
 mRet 6 h) fun h=>
 mLen 6 Aa4 x1 <|
 mAsk 0 h dT dF (fun h=>
 mRet 5 h) fun h=>
 mLen 5 Aa4 x1 <|
 mFin 2 h
end q60_
namespace q73_
noncomputable def B:Code:=(Tryd.f49.body).getD .skip
def W:List Nat:=[0,1,2,6,7,9,14,18,19,20,21,22,32]
def res (r:Int):D×List D:=(.lit (.int .i64 r),[])
def C (x0:Int) (x1:List api_FD) (x2:List api_MVD) (r:Int):Prop:=Ret env 49 [.lit (.int .i64 x0),.sl (x1.map Aa4),.sl (x2.map Aa3)] (res r).1 (res r).2
def L1 (x0:Int) (x2:List api_MVD) (z0:Int) (φ:Int->Prop):Prop:=Pt env 49 W B [1,1,1,0,1,0] [(0,.lit (.int .i64 x0)),(2,.sl (x2.map Aa3)),(19,.sl (x2.map Aa3)),(20,.lit (.int .i64 ((x2.length:Int)))),(21,.lit (.int .i64 z0))] (Lv env 49 Tryd.f49 3 res φ)
theorem L1_step (x0:Int) (x2:List api_MVD) (z0:Int) (φ:Int->Prop) (h :
 (if z0<(x2.length:Int) then
 ∃ a2,lget x2 z0=some a2 /\
 0<=x0 /\
 (if (shrw .u32 (bOr .u32 a2.Lhs a2.Rhs) x0)=0 then
 q73_.L1 x0 x2 ((IntKind.wrap .i64 (z0+1))) φ
 else
 φ 1)
 else
 φ 0)):L1 x0 x2 z0 φ:=
 mIn <|
 mAsk 2 h dT dF (fun h=>
 mIx 4 Aa3 h fun a2 h3 h=>
 h.elim fun h4 h=>
 mBi 11 (Al2 (t:=33) (q:=.u32) (q':=.i64) (i1:=(bOr .u32 a2.Lhs a2.Rhs)) h4) <|
 Ad0 0 h Acn Acm (fun h=>
 mRet 5 h) fun h=>
 mFin 7 h) fun h=>
 mRet 6 h
theorem enter (x0:Int) (x1:List api_FD) (x2:List api_MVD) (φ:Int->Prop) (h :
 ∃ r1:Int,q60_.C x0 x1 r1 /\
 (if r1=0 then
 (if 64<(x2.length:Int) then
 φ 3
 else
 q73_.L1 x0 x2 0 φ)
 else
 φ r1)):∃ r,φ r/\C x0 x1 x2 r:=
 mEnt (fd:=Tryd.f49) (body:=B) (V:=W) (res:=res) <|
 mCal 6 h (fun _ h=>h) fun r1 _ h=>
 Ad0 4 h Acn Acm (fun h=>
 mRet 6 h) fun h=>
 mLen 5 Aa3 x2 <|
 mAsk 0 h dT dF (fun h=>
 mRet 5 h) fun h=>
 mLen 5 Aa3 x2 <|
 mFin 2 h
end q73_
namespace q33_
noncomputable def B:Code:=(Tryd.f42.body).getD .skip
def W:List Nat:=[0,1,4]
def res (r:Bool):D×List D:=(.lit (.bool r),[])
def C (x0 x1:Int) (r:Bool):Prop:=Ret env 42 [.lit (.int .i64 x0),.lit (.int .u32 x1)] (res r).1 (res r).2
theorem enter (x0 x1:Int) (φ:Bool->Prop) (h :
 ∃ r1:Int,q48_.C x0 r1 /\
 ∃ r2:Bool,q59_.C x1 r1 r2 /\
 φ r2):∃ r,φ r/\C x0 x1 r:=
 mEnt (fd:=Tryd.f42) (body:=B) (V:=W) (res:=res) <|
 mCal 6 h (fun _ h=>h) fun r1 _ h=>
 mCal 0 h (fun _ h=>h) fun r2 _ h=>
 mRet 2 h
end q33_
namespace q40_
noncomputable def B:Code:=(Tryd.f47.body).getD .skip
def W:List Nat:=[0,1,2,3,4,5,6,8,9,14,39]
def res (r:Bool):D×List D:=(.lit (.bool r),[])
def C (x0:api_Table) (x1 x2:api_Row) (x3:Int) (r:Bool):Prop:=Ret env 47 [.agg [.lit (.string x0.Name),.sl (x0.Attrs.map eS),.sl (x0.Rows.map Aa2)],.agg [.lit (.int .i64 x1.ID),.sl (x1.Values.map Aa1)],.agg [.lit (.int .i64 x2.ID),.sl (x2.Values.map Aa1)],.lit (.int .u32 x3)] (res r).1 (res r).2
def L1 (x0:api_Table) (x1 x2:api_Row) (x3 z0:Int) (φ:Bool->Prop):Prop:=Pt env 47 W B [1,0,1,0] [(0,.agg [.lit (.string x0.Name),.sl (x0.Attrs.map eS),.sl (x0.Rows.map Aa2)]),(1,.agg [.lit (.int .i64 x1.ID),.sl (x1.Values.map Aa1)]),(2,.agg [.lit (.int .i64 x2.ID),.sl (x2.Values.map Aa1)]),(3,.lit (.int .u32 x3)),(4,.box [.lit (.string x0.Name),.sl (x0.Attrs.map eS),.sl (x0.Rows.map Aa2)]),(5,.box [.lit (.int .i64 x1.ID),.sl (x1.Values.map Aa1)]),(6,.box [.lit (.int .i64 x2.ID),.sl (x2.Values.map Aa1)]),(9,.lit (.int .i64 z0))] (Lv env 47 Tryd.f47 4 res φ)
def L2 (x0:api_Table) (x1 x2:api_Row) (x3 z0:Int) (φ:Bool->Prop):Prop:=Pt env 47 W B [1,0,1,0,0,1,1] [(0,.agg [.lit (.string x0.Name),.sl (x0.Attrs.map eS),.sl (x0.Rows.map Aa2)]),(1,.agg [.lit (.int .i64 x1.ID),.sl (x1.Values.map Aa1)]),(2,.agg [.lit (.int .i64 x2.ID),.sl (x2.Values.map Aa1)]),(3,.lit (.int .u32 x3)),(4,.box [.lit (.string x0.Name),.sl (x0.Attrs.map eS),.sl (x0.Rows.map Aa2)]),(5,.box [.lit (.int .i64 x1.ID),.sl (x1.Values.map Aa1)]),(6,.box [.lit (.int .i64 x2.ID),.sl (x2.Values.map Aa1)]),(9,.lit (.int .i64 z0))] (Lv env 47 Tryd.f47 4 res φ)
theorem L1_step (x0:api_Table) (x1 x2:api_Row) (x3 z0:Int) (φ:Bool->Prop) (h :
 (if z0<(x0.Rows.length:Int) then
 ∃ a1,lget x0.Rows z0=some a1 /\
 ∃ r3:Bool,q39_.C a1 x1 x3 r3 /\
 (if r3=true then
 ∃ r4:Int,q48_.C ((x0.Attrs.length:Int)) r4 /\
 ∃ r5:Bool,q39_.C a1 x2 ((Aag .u32 r4 x3)) r5 /\
 (if r5=true then
 φ true
 else
 q40_.L2 x0 x1 x2 x3 z0 φ)
 else
 q40_.L2 x0 x1 x2 x3 z0 φ)
 else
 φ false)):L1 x0 x1 x2 x3 z0 φ:=
 mIn <|
 mLen 5 Aa2 x0.Rows <|
 mAsk 0 h dT dF (fun h=>
 mIx 7 Aa2 h fun a1 h2 h=>
 Ac2 3 h (fun _ h=>h) (fun _ h=>
 mIxf 4 Aa2 h2 <|
 mLen 4 eS x0.Attrs <|
 mLo 0 h (fun _ h=>h) fun r4 _ h=>
 Ac2 (A:=fun _=>φ true) 2 h (fun _ h=>h) (fun _ h=>
 mRet 6 h) fun _ h=>
 mFin 4 h) fun _ h=>
 mFin 18 h) fun h=>
 mRet 6 h
theorem L2_step (x0:api_Table) (x1 x2:api_Row) (x3 z0:Int) (φ:Bool->Prop) (h :
 q40_.L1 x0 x1 x2 x3 ((IntKind.wrap .i64 (z0+1))) φ):L2 x0 x1 x2 x3 z0 φ:=
 mIn <|
 mFin 5 h
theorem enter (x0:api_Table) (x1 x2:api_Row) (x3:Int) (φ:Bool->Prop) (h :
 q40_.L1 x0 x1 x2 x3 0 φ):∃ r,φ r/\C x0 x1 x2 x3 r:=
 mEnt (fd:=Tryd.f47) (body:=B) (V:=W) (res:=res) <|
 mFin 9 h
end q40_
namespace q41_
noncomputable def B:Code:=(Tryd.f28.body).getD .skip
def W:List Nat:=[0,1,2,3,4,5,6,7,8,9,10,14,26,36,43,74]
def res (r:Bool×Int):D×List D:=(.tup [.lit (.bool r.1),.lit (.int .i64 r.2)],[])
def C (x0:api_Table) (x1:api_MVD) (r:Bool×Int):Prop:=Ret env 28 [.agg [.lit (.string x0.Name),.sl (x0.Attrs.map eS),.sl (x0.Rows.map Aa2)],.agg [.lit (.int .u32 x1.Lhs),.lit (.int .u32 x1.Rhs)]] (res r).1 (res r).2
def L1 (x0:api_Table) (x1:api_MVD) (z0:Int) (φ:Bool×Int->Prop):Prop:=Pt env 28 W B [1,1,1,1,1,0,1,0] [(0,.agg [.lit (.string x0.Name),.sl (x0.Attrs.map eS),.sl (x0.Rows.map Aa2)]),(1,.agg [.lit (.int .u32 x1.Lhs),.lit (.int .u32 x1.Rhs)]),(2,.box [.lit (.string x0.Name),.sl (x0.Attrs.map eS),.sl (x0.Rows.map Aa2)]),(3,.box [.lit (.int .u32 x1.Lhs),.lit (.int .u32 x1.Rhs)]),(8,.lit (.int .u32 ((bOr .u32 x1.Lhs x1.Rhs)))),(9,.lit (.int .i64 z0))] (Lv env 28 Tryd.f28 2 res φ)
def L2 (x0:api_Table) (x1:api_MVD) (z0 z1:Int) (φ:Bool×Int->Prop):Prop:=Pt env 28 W B [1,1,1,1,1,0,1,0,0,1,0,0,1,0] [(0,.agg [.lit (.string x0.Name),.sl (x0.Attrs.map eS),.sl (x0.Rows.map Aa2)]),(1,.agg [.lit (.int .u32 x1.Lhs),.lit (.int .u32 x1.Rhs)]),(2,.box [.lit (.string x0.Name),.sl (x0.Attrs.map eS),.sl (x0.Rows.map Aa2)]),(3,.box [.lit (.int .u32 x1.Lhs),.lit (.int .u32 x1.Rhs)]),(8,.lit (.int .u32 ((bOr .u32 x1.Lhs x1.Rhs)))),(9,.lit (.int .i64 z0)),(10,.lit (.int .i64 z1))] (Lv env 28 Tryd.f28 2 res φ)
def L3 (x0:api_Table) (x1:api_MVD) (z0 z1:Int) (φ:Bool×Int->Prop):Prop:=Pt env 28 W B [1,1,1,1,1,0,1,0,0,1,0,0,1,0,0,1,1] [(0,.agg [.lit (.string x0.Name),.sl (x0.Attrs.map eS),.sl (x0.Rows.map Aa2)]),(1,.agg [.lit (.int .u32 x1.Lhs),.lit (.int .u32 x1.Rhs)]),(2,.box [.lit (.string x0.Name),.sl (x0.Attrs.map eS),.sl (x0.Rows.map Aa2)]),(3,.box [.lit (.int .u32 x1.Lhs),.lit (.int .u32 x1.Rhs)]),(8,.lit (.int .u32 ((bOr .u32 x1.Lhs x1.Rhs)))),(9,.lit (.int .i64 z0)),(10,.lit (.int .i64 z1))] (Lv env 28 Tryd.f28 2 res φ)
theorem L1_step (x0:api_Table) (x1:api_MVD) (z0:Int) (φ:Bool×Int->Prop) (h :
 (if z0<(x0.Rows.length:Int) then
 q41_.L2 x0 x1 z0 0 φ
 else
 φ ((true,0)))):L1 x0 x1 z0 φ:=
 mIn <|
 mLen 5 Aa2 x0.Rows <|
 mAsk 0 h dT dF (fun h=>
 mFin 6 h) fun h=>
 mRet 7 h
theorem L2_step (x0:api_Table) (x1:api_MVD) (z0 z1:Int) (φ:Bool×Int->Prop) (h :
 (if z1<(x0.Rows.length:Int) then
 ∃ a3,lget x0.Rows z0=some a3 /\
 ∃ a5,lget x0.Rows z1=some a5 /\
 ∃ r7:Bool,q39_.C a3 a5 x1.Lhs r7 /\
 (if r7=true then
 ∃ r8:Bool,q40_.C x0 a3 a5 ((bOr .u32 x1.Lhs x1.Rhs)) r8 /\
 (if r8=true then
 q41_.L3 x0 x1 z0 z1 φ
 else
 φ ((false,0)))
 else
 q41_.L3 x0 x1 z0 z1 φ)
 else
 q41_.L1 x0 x1 ((IntKind.wrap .i64 (z0+1))) φ)):L2 x0 x1 z0 z1 φ:=
 mIn <|
 mLen 5 Aa2 x0.Rows <|
 mAsk 0 h dT dF (fun h=>
 mIx 7 Aa2 h fun a3 h4 h=>
 mIx 4 Aa2 h fun a5 h6 h=>
 Ac2 3 h (fun _ h=>h) (fun _ h=>
 mIxf 5 Aa2 h4 <|
 mIxf 4 Aa2 h6 <|
 Ac2 2 h (fun _ h=>h) (fun _ h=>
 mFin 5 h) fun _ h=>
 mRet 8 h) fun _ h=>
 mFin 19 h) fun h=>
 mFin 8 h
theorem L3_step (x0:api_Table) (x1:api_MVD) (z0 z1:Int) (φ:Bool×Int->Prop) (h :
 q41_.L2 x0 x1 z0 ((IntKind.wrap .i64 (z1+1))) φ):L3 x0 x1 z0 z1 φ:=
 mIn <|
 mFin 5 h
theorem enter (x0:api_Table) (x1:api_MVD) (φ:Bool×Int->Prop) (h :
 ∃ r1:Int,q37_.C x0 r1 /\
 (if r1=0 then
 ∃ r2:Bool,q33_.C ((x0.Attrs.length:Int)) ((bOr .u32 x1.Lhs x1.Rhs)) r2 /\
 (if r2=true then
 q41_.L1 x0 x1 0 φ
 else
 φ ((false,1)))
 else
 φ ((false,r1)))):∃ r,φ r/\C x0 x1 r:=
 mEnt (fd:=Tryd.f28) (body:=B) (V:=W) (res:=res) <|
 mCal 8 h (fun _ h=>h) fun r1 _ h=>
 Ad0 4 h Acn Acm (fun h=>
 mRet 7 h) fun h=>
 mLen 6 eS x0.Attrs <|
 Ac2 9 h (fun _ h=>h) (fun _ h=>
 mFin 15 h) fun _ h=>
 mRet 7 h
end q41_
namespace q21_
noncomputable def B:Code:=(Tryd.f56.body).getD .skip
def W:List Nat:=[0,2]
def res (r:Int):D×List D:=(.lit (.int .i64 r),[])
def C (x0 r:Int):Prop:=Ret env 56 [.lit (.int .u32 x0)] (res r).1 (res r).2
theorem enter (x0:Int) (φ:Int->Prop) (h :
 ∃ b1,((0:Int)<=(shrw .u32 x0 24)/\((⟨#[0,1,1,2,1,2,2,3,1,2,2,3,2,3,3,4,1,2,2,3,2,3,3,4,2,3,3,4,3,4,4,5,1,2,2,3,2,3,3,4,2,3,3,4,3,4,4,5,2,3,3,4,3,4,4,5,3,4,4,5,4,5,5,6,1,2,2,3,2,3,3,4,2,3,3,4,3,4,4,5,2,3,3,4,3,4,4,5,3,4,4,5,4,5,5,6,2,3,3,4,3,4,4,5,3,4,4,5,4,5,5,6,3,4,4,5,4,5,5,6,4,5,5,6,5,6,6,7,1,2,2,3,2,3,3,4,2,3,3,4,3,4,4,5,2,3,3,4,3,4,4,5,3,4,4,5,4,5,5,6,2,3,3,4,3,4,4,5,3,4,4,5,4,5,5,6,3,4,4,5,4,5,5,6,4,5,5,6,5,6,6,7,2,3,3,4,3,4,4,5,3,4,4,5,4,5,5,6,3,4,4,5,4,5,5,6,4,5,5,6,5,6,6,7,3,4,4,5,4,5,5,6,4,5,5,6,5,6,6,7,4,5,5,6,5,6,6,7,5,6,6,7,6,7,7,8]⟩:ByteArray))[((shrw .u32 x0 24)).toNat]? = some b1) /\
 ∃ b4,((0:Int)<=(bAnd .u32 (shrw .u32 x0 16) 255)/\((⟨#[0,1,1,2,1,2,2,3,1,2,2,3,2,3,3,4,1,2,2,3,2,3,3,4,2,3,3,4,3,4,4,5,1,2,2,3,2,3,3,4,2,3,3,4,3,4,4,5,2,3,3,4,3,4,4,5,3,4,4,5,4,5,5,6,1,2,2,3,2,3,3,4,2,3,3,4,3,4,4,5,2,3,3,4,3,4,4,5,3,4,4,5,4,5,5,6,2,3,3,4,3,4,4,5,3,4,4,5,4,5,5,6,3,4,4,5,4,5,5,6,4,5,5,6,5,6,6,7,1,2,2,3,2,3,3,4,2,3,3,4,3,4,4,5,2,3,3,4,3,4,4,5,3,4,4,5,4,5,5,6,2,3,3,4,3,4,4,5,3,4,4,5,4,5,5,6,3,4,4,5,4,5,5,6,4,5,5,6,5,6,6,7,2,3,3,4,3,4,4,5,3,4,4,5,4,5,5,6,3,4,4,5,4,5,5,6,4,5,5,6,5,6,6,7,3,4,4,5,4,5,5,6,4,5,5,6,5,6,6,7,4,5,5,6,5,6,6,7,5,6,6,7,6,7,7,8]⟩:ByteArray))[((bAnd .u32 (shrw .u32 x0 16) 255)).toNat]? = some b4) /\
 ∃ b7,((0:Int)<=(bAnd .u32 (shrw .u32 x0 8) 255)/\((⟨#[0,1,1,2,1,2,2,3,1,2,2,3,2,3,3,4,1,2,2,3,2,3,3,4,2,3,3,4,3,4,4,5,1,2,2,3,2,3,3,4,2,3,3,4,3,4,4,5,2,3,3,4,3,4,4,5,3,4,4,5,4,5,5,6,1,2,2,3,2,3,3,4,2,3,3,4,3,4,4,5,2,3,3,4,3,4,4,5,3,4,4,5,4,5,5,6,2,3,3,4,3,4,4,5,3,4,4,5,4,5,5,6,3,4,4,5,4,5,5,6,4,5,5,6,5,6,6,7,1,2,2,3,2,3,3,4,2,3,3,4,3,4,4,5,2,3,3,4,3,4,4,5,3,4,4,5,4,5,5,6,2,3,3,4,3,4,4,5,3,4,4,5,4,5,5,6,3,4,4,5,4,5,5,6,4,5,5,6,5,6,6,7,2,3,3,4,3,4,4,5,3,4,4,5,4,5,5,6,3,4,4,5,4,5,5,6,4,5,5,6,5,6,6,7,3,4,4,5,4,5,5,6,4,5,5,6,5,6,6,7,4,5,5,6,5,6,6,7,5,6,6,7,6,7,7,8]⟩:ByteArray))[((bAnd .u32 (shrw .u32 x0 8) 255)).toNat]? = some b7) /\
 ∃ b10,((0:Int)<=(bAnd .u32 x0 255)/\((⟨#[0,1,1,2,1,2,2,3,1,2,2,3,2,3,3,4,1,2,2,3,2,3,3,4,2,3,3,4,3,4,4,5,1,2,2,3,2,3,3,4,2,3,3,4,3,4,4,5,2,3,3,4,3,4,4,5,3,4,4,5,4,5,5,6,1,2,2,3,2,3,3,4,2,3,3,4,3,4,4,5,2,3,3,4,3,4,4,5,3,4,4,5,4,5,5,6,2,3,3,4,3,4,4,5,3,4,4,5,4,5,5,6,3,4,4,5,4,5,5,6,4,5,5,6,5,6,6,7,1,2,2,3,2,3,3,4,2,3,3,4,3,4,4,5,2,3,3,4,3,4,4,5,3,4,4,5,4,5,5,6,2,3,3,4,3,4,4,5,3,4,4,5,4,5,5,6,3,4,4,5,4,5,5,6,4,5,5,6,5,6,6,7,2,3,3,4,3,4,4,5,3,4,4,5,4,5,5,6,3,4,4,5,4,5,5,6,4,5,5,6,5,6,6,7,3,4,4,5,4,5,5,6,4,5,5,6,5,6,6,7,4,5,5,6,5,6,6,7,5,6,6,7,6,7,7,8]⟩:ByteArray))[((bAnd .u32 x0 255)).toNat]? = some b10) /\
 φ ((IntKind.wrap .i64 (IntKind.wrap .u8 ((IntKind.wrap .u8 ((IntKind.wrap .u8 ((u8i b1)+(u8i b4)))+(u8i b7)))+(u8i b10)))))):∃ r,φ r/\C x0 r:=
 mEnt (fd:=Tryd.f56) (body:=B) (V:=W) (res:=res) <|
 mSt 6 h fun b1 h=>
 mSt 3 h fun b4 h=>
 mSt 4 h fun b7 h=>
 mSt 3 h fun b10 h=>
 mRet 4 h
end q21_
namespace q69_
noncomputable def B:Code:=(Tryd.f39.body).getD .skip
def W:List Nat:=[0,2]
def res (r:Int):D×List D:=(.lit (.int .i64 r),[])
def C (x0 r:Int):Prop:=Ret env 39 [.lit (.int .u32 x0)] (res r).1 (res r).2
theorem enter (x0:Int) (φ:Int->Prop) (h :
 ∃ r1:Int,q21_.C x0 r1 /\
 φ r1):∃ r,φ r/\C x0 r:=
 mEnt (fd:=Tryd.f39) (body:=B) (V:=W) (res:=res) <|
 mCal 5 h (fun _ h=>h) fun r1 _ h=>
 mRet 2 h
end q69_
namespace q34_
noncomputable def B:Code:=(Tryd.f106.body).getD .skip
def W:List Nat:=[0,2]
def res (r:Bool):D×List D:=(.lit (.bool r),[])
def C (x0:Int) (r:Bool):Prop:=Ret env 106 [.lit (.int .u32 x0)] (res r).1 (res r).2
theorem enter (x0:Int) (φ:Bool->Prop) (h :
 φ ((x0 != x0))):∃ r,φ r/\C x0 r:=
 mEnt (fd:=Tryd.f106) (body:=B) (V:=W) (res:=res) <|
 mRet 9 h
end q34_
namespace q26_
noncomputable def B:Code:=(Tryd.f90.body).getD .skip
def W:List Nat:=[0,1,4,5,6,11,12,13,16,19]
def res (r:Int):D×List D:=(.lit (.int .i64 r),[])
def C (x0 x1 r:Int):Prop:=Ret env 90 [.lit (.int .u32 x0),.lit (.int .u32 x1)] (res r).1 (res r).2
theorem enter (x0 x1:Int) (φ:Int->Prop) (h :
 ∃ r1:Bool,q34_.C x0 r1 /\
 ∃ r2:Bool,q34_.C x1 r2 /\
 (if r1=true then
 (if r2=true then
 φ 0
 else
 φ ((-1)))
 else
 (if r2=true then
 φ 1
 else
 (if x0<x1 then
 φ ((-1))
 else
 (if x1<x0 then
 φ 1
 else
 φ 0))))):∃ r,φ r/\C x0 x1 r:=
 mEnt (fd:=Tryd.f90) (body:=B) (V:=W) (res:=res) <|
 mCal 5 h (fun _ h=>h) fun r1 _ h=>
 mCal 4 h (fun _ h=>h) fun r2 _ h=>
 mAsk 3 h id fls (fun h=>
 mAsk 3 h id fls (fun h=>
 mRet 5 h) fun h=>
 mRet 6 h) fun h=>
 mAsk 4 h id fls (fun h=>
 mRet 5 h) fun h=>
 mAsk 6 h dT dF (fun h=>
 mRet 5 h) fun h=>
 mAsk 6 h dT dF (fun h=>
 mRet 5 h) fun h=>
 mRet 6 h
end q26_
namespace q61_
noncomputable def B:Code:=(Tryd.f105.body).getD .skip
def W:List Nat:=[0,2]
def res (r:Bool):D×List D:=(.lit (.bool r),[])
def C (x0:Int) (r:Bool):Prop:=Ret env 105 [.lit (.int .i64 x0)] (res r).1 (res r).2
theorem enter (x0:Int) (φ:Bool->Prop) (h :
 φ ((x0 != x0))):∃ r,φ r/\C x0 r:=
 mEnt (fd:=Tryd.f105) (body:=B) (V:=W) (res:=res) <|
 mRet 9 h
end q61_
namespace q51_
noncomputable def B:Code:=(Tryd.f89.body).getD .skip
def W:List Nat:=[0,1,4,5,6,11,12,13,16,19]
def res (r:Int):D×List D:=(.lit (.int .i64 r),[])
def C (x0 x1 r:Int):Prop:=Ret env 89 [.lit (.int .i64 x0),.lit (.int .i64 x1)] (res r).1 (res r).2
theorem enter (x0 x1:Int) (φ:Int->Prop) (h :
 ∃ r1:Bool,q61_.C x0 r1 /\
 ∃ r2:Bool,q61_.C x1 r2 /\
 (if r1=true then
 (if r2=true then
 φ 0
 else
 φ ((-1)))
 else
 (if r2=true then
 φ 1
 else
 (if x0<x1 then
 φ ((-1))
 else
 (if x1<x0 then
 φ 1
 else
 φ 0))))):∃ r,φ r/\C x0 x1 r:=
 mEnt (fd:=Tryd.f89) (body:=B) (V:=W) (res:=res) <|
 mCal 5 h (fun _ h=>h) fun r1 _ h=>
 mCal 4 h (fun _ h=>h) fun r2 _ h=>
 mAsk 3 h id fls (fun h=>
 mAsk 3 h id fls (fun h=>
 mRet 5 h) fun h=>
 mRet 6 h) fun h=>
 mAsk 4 h id fls (fun h=>
 mRet 5 h) fun h=>
 mAsk 6 h dT dF (fun h=>
 mRet 5 h) fun h=>
 mAsk 6 h dT dF (fun h=>
 mRet 5 h) fun h=>
 mRet 6 h
end q51_
namespace q77_
noncomputable def B:Code:=(Tryd.f88.body).getD .skip
def W:List Nat:=[0,2,3,5,6,7,8,9,14]
def res (r:Int):D×List D:=(.lit (.int .i64 r),[])
def C (x0:List Int) (r:Int):Prop:=Ret env 88 [.sl (x0.map (eI .i64))] (res r).1 (res r).2
def L1 (x0:List Int) (z0:Int) (φ:Int->Prop):Prop:=Pt env 88 W B [1,1,0,1,0] [(0,.sl (x0.map (eI .i64))),(3,.lit (.int .i64 0)),(6,.sl (x0.map (eI .i64))),(7,.lit (.int .i64 ((x0.length:Int)))),(8,.lit (.int .i64 z0))] (Lv env 88 Tryd.f88 1 res φ)
theorem L1_step (x0:List Int) (z0:Int) (φ:Int->Prop) (h :
 (if z0<(x0.length:Int) then
 ∃ a1,lget x0 z0=some a1 /\
 (if a1=0 then
 q77_.L1 x0 ((IntKind.wrap .i64 (z0+1))) φ
 else
 φ a1)
 else
 φ 0)):L1 x0 z0 φ:=
 mIn <|
 mAsk 2 h dT dF (fun h=>
 mIx 4 (eI .i64) h fun a1 h2 h=>
 Ad0 6 h Acn Acm (fun h=>
 mRet 6 h) fun h=>
 mFin 7 h) fun h=>
 mRet 7 h
theorem enter (x0:List Int) (φ:Int->Prop) (h :
 q77_.L1 x0 0 φ):∃ r,φ r/\C x0 r:=
 mEnt (fd:=Tryd.f88) (body:=B) (V:=W) (res:=res) <|
 mLen 8 (eI .i64) x0 <|
 mFin 2 h
end q77_
namespace q52_
noncomputable def B:Code:=(Tryd.f71.body).getD .skip
def W:List Nat:=[0,1,4]
def res (r:Int):D×List D:=(.lit (.int .i64 r),[])
def C (x0 x1 r:Int):Prop:=Ret env 71 [.lit (.int .u32 x0),.lit (.int .u32 x1)] (res r).1 (res r).2
theorem enter (x0 x1:Int) (φ:Int->Prop) (h :
 ∃ r1:Int,q69_.C x0 r1 /\
 ∃ r2:Int,q69_.C x1 r2 /\
 ∃ r3:Int,q51_.C r1 r2 r3 /\
 ∃ r4:Int,q26_.C x0 x1 r4 /\
 ∃ r5:Int,q77_.C ([r3,r4]) r5 /\
 φ r5):∃ r,φ r/\C x0 x1 r:=
 mEnt (fd:=Tryd.f71) (body:=B) (V:=W) (res:=res) <|
 mCal 5 h (fun _ h=>h) fun r1 _ h=>
 mCal 1 h (fun _ h=>h) fun r2 _ h=>
 mCal 0 h (fun _ h=>h) fun r3 _ h=>
 mCal 2 h (fun _ h=>h) fun r4 _ h=>
 mCal 1 h (fun _ h=>h) (hr:=by exact (Afz (Ag4 (s:=13) (ps:=[]) (l:=[r3,r4]) (e:=(eI .i64)) (e':=(eI .i64)) (fun _=>rfl) (by kernel_rfl)) Anu)) fun r5 _ h=>
 mRet 2 h
end q52_
namespace q5_
noncomputable def B:Code:=(Tryd.f95.body).getD .skip
def W:List Nat:=[0,1,2,3,8,9,14,34,1000000]
def res (r:List Int):D×List D:=(.tup [],[.own (r.map (eI .u32))])
def C (x1 x2:Int) (k0_0 r:List Int):Prop:=Ret env 95 [.own (k0_0.map (eI .u32)),.lit (.int .i64 x1),.lit (.int .i64 x2),.fn 71 []] (res r).1 (res r).2
def L1 (x1 x2 z0:Int) (k0_0:List Int) (φ:List Int->Prop):Prop:=Pt env 95 W B [1,0] [(0,.alias 1000000 []),(1,.lit (.int .i64 x1)),(2,.lit (.int .i64 x2)),(3,.fn 71 []),(8,.lit (.int .i64 z0)),(1000000,.own (k0_0.map (eI .u32)))] (Lv env 95 Tryd.f95 4 res φ)
def L2 (x1 x2:Int) (z0 z1:Int) (k0_0:List Int) (φ:List Int->Prop):Prop:=Pt env 95 W B [1,0,0,1,0,0,1,0] [(0,.alias 1000000 []),(1,.lit (.int .i64 x1)),(2,.lit (.int .i64 x2)),(3,.fn 71 []),(8,.lit (.int .i64 z0)),(9,.lit (.int .i64 z1)),(1000000,.own (k0_0.map (eI .u32)))] (Lv env 95 Tryd.f95 4 res φ)
def L3 (x1 x2 z0:Int) (k0_0:List Int) (φ:List Int->Prop):Prop:=Pt env 95 W B [1,0,0,1,1] [(0,.alias 1000000 []),(1,.lit (.int .i64 x1)),(2,.lit (.int .i64 x2)),(3,.fn 71 []),(8,.lit (.int .i64 z0)),(1000000,.own (k0_0.map (eI .u32)))] (Lv env 95 Tryd.f95 4 res φ)
theorem L1_step (x1 x2 z0:Int) (k0_0:List Int) (φ:List Int->Prop) (h :
 (if z0<x2 then
 q5_.L2 x1 x2 z0 z0 k0_0 φ
 else
 φ k0_0)):L1 x1 x2 z0 k0_0 φ:=
 mIn <|
 mAsk 4 h dT dF (fun h=>
 mFin 7 h) fun h=>
 mRet 2 h
theorem L2_step (x1 x2:Int) (z0 z1:Int) (k0_0:List Int) (φ:List Int->Prop) (h :
 (if x1<z1 then
 ∃ a1,lget k0_0 z1=some a1 /\
 ∃ a3,lget k0_0 ((IntKind.wrap .i64 (z1-1)))=some a3 /\
 ∃ r5:Int,q52_.C a1 a3 r5 /\
 (if r5<0 then
 ∃ a6,lget ((lset k0_0 z1 a3)) ((IntKind.wrap .i64 (z1-1)))=some a6 /\
 q5_.L2 x1 x2 z0 ((IntKind.wrap .i64 (z1-1))) ((lset (lset k0_0 z1 a3) (IntKind.wrap .i64 (z1-1)) a1)) φ
 else
 q5_.L3 x1 x2 z0 k0_0 φ)
 else
 q5_.L3 x1 x2 z0 k0_0 φ)):L2 x1 x2 z0 z1 k0_0 φ:=
 mIn <|
 mAsk 4 h dT dF (fun h=>
 mIy 4 (eI .u32) h fun a1 h2 h=>
 mLd 0 (eI .u32) h2 <|
 mIy 3 (eI .u32) h fun a3 h4 h=>
 mLd 0 (eI .u32) h4 <|
 mCal 0 h (fun _ h=>h) fun r5 _ h=>
 mAsk 0 h dT dF (fun h=>
 mIyf 13 (eI .u32) h4 <|
 mLd 0 (eI .u32) h4 <|
 mIyf 2 (eI .u32) h2 <|
 mLd 0 (eI .u32) h2 <|
 mIyf 0 (eI .u32) h2 <|
 Bil 0 (eI .u32) a3 h2 <|
 mIy 0 (eI .u32) h fun a6 h7 h=>
 mSto 0 (eI .u32) a1 h7 <|
 mFin 6 h) fun h=>
 mFin 4 h) fun h=>
 mFin 17 h
theorem L3_step (x1 x2 z0:Int) (k0_0:List Int) (φ:List Int->Prop) (h :
 q5_.L1 x1 x2 ((IntKind.wrap .i64 (z0+1))) k0_0 φ):L3 x1 x2 z0 k0_0 φ:=
 mIn <|
 mFin 5 h
theorem enter (x1 x2:Int) (k0_0:List Int) (φ:List Int->Prop) (h :
 q5_.L1 x1 x2 ((IntKind.wrap .i64 (x1+1))) k0_0 φ):∃ r,φ r/\C x1 x2 k0_0 r:=
 mEnt (fd:=Tryd.f95) (body:=B) (V:=W) (res:=res) <|
 mFin 5 h
end q5_
namespace q12_
end q12_
namespace q13_
def res (r:List Int):D×List D:=(.tup [],[.own (r.map (eI .u32))])
def C (x1 x2:Int) (k0_0 r:List Int):Prop:=Ret env 96 [.own (k0_0.map (eI .u32)),.lit (.int .i64 x1),.lit (.int .i64 x2),.fn 71 []] (res r).1 (res r).2
end q13_
namespace q1_
end q1_
namespace q11_
end q11_
namespace q3_
end q3_
namespace q7_
end q7_
namespace q16_
end q16_
namespace q17_
end q17_
namespace q4_
end q4_
namespace q8_
end q8_
namespace q53_
noncomputable def B:Code:=(Tryd.f104.body).getD .skip
def W:List Nat:=[0,2,4,8,14]
def res (r:Int):D×List D:=(.lit (.int .i64 r),[])
def C (x0 r:Int):Prop:=Ret env 104 [.lit (.int .u64 x0)] (res r).1 (res r).2
def L3 (z0 z1:Int) (φ:Int->Prop):Prop:=Pt env 104 W B [1,1,0,0] [(0,.lit (.int .u64 z0)),(2,.lit (.int .i64 z1))] (Lv env 104 Tryd.f104 1 res φ)
def L2 (z0 z1:Int) (φ:Int->Prop):Prop:=Pt env 104 W B [1,1,1,0,0] [(0,.lit (.int .u64 z0)),(2,.lit (.int .i64 z1))] (Lv env 104 Tryd.f104 1 res φ)
def L1 (z0 z1:Int) (φ:Int->Prop):Prop:=Pt env 104 W B [1,1,1,1,0] [(0,.lit (.int .u64 z0)),(2,.lit (.int .i64 z1))] (Lv env 104 Tryd.f104 1 res φ)
theorem L3_step (z0 z1:Int) (φ:Int->Prop) (h :
 (if 65536<=z0 then
 q53_.L2 ((shrw .u64 z0 16)) ((IntKind.wrap .i64 (z1+16))) φ
 else
 q53_.L2 z0 z1 φ)):L3 z0 z1 φ:=
 mIn <|
 mAsk 2 h dT dF (fun h=>
 mFin 12 h) fun h=>
 mFin 3 h
theorem L2_step (z0 z1:Int) (φ:Int->Prop) (h :
 (if 256<=z0 then
 q53_.L1 ((shrw .u64 z0 8)) ((IntKind.wrap .i64 (z1+8))) φ
 else
 q53_.L1 z0 z1 φ)):L2 z0 z1 φ:=
 mIn <|
 mAsk 2 h dT dF (fun h=>
 mFin 12 h) fun h=>
 mFin 3 h
theorem L1_step (z0 z1:Int) (φ:Int->Prop) (h :
 ∃ b1,((0:Int)<=(IntKind.wrap .u8 z0)/\((⟨#[0,1,2,2,3,3,3,3,4,4,4,4,4,4,4,4,5,5,5,5,5,5,5,5,5,5,5,5,5,5,5,5,6,6,6,6,6,6,6,6,6,6,6,6,6,6,6,6,6,6,6,6,6,6,6,6,6,6,6,6,6,6,6,6,7,7,7,7,7,7,7,7,7,7,7,7,7,7,7,7,7,7,7,7,7,7,7,7,7,7,7,7,7,7,7,7,7,7,7,7,7,7,7,7,7,7,7,7,7,7,7,7,7,7,7,7,7,7,7,7,7,7,7,7,7,7,7,7,8,8,8,8,8,8,8,8,8,8,8,8,8,8,8,8,8,8,8,8,8,8,8,8,8,8,8,8,8,8,8,8,8,8,8,8,8,8,8,8,8,8,8,8,8,8,8,8,8,8,8,8,8,8,8,8,8,8,8,8,8,8,8,8,8,8,8,8,8,8,8,8,8,8,8,8,8,8,8,8,8,8,8,8,8,8,8,8,8,8,8,8,8,8,8,8,8,8,8,8,8,8,8,8,8,8,8,8,8,8,8,8,8,8,8,8,8,8,8,8,8,8,8,8,8,8,8,8]⟩:ByteArray))[((IntKind.wrap .u8 z0)).toNat]? = some b1) /\
 φ ((IntKind.wrap .i64 (z1+(IntKind.wrap .i64 (u8i b1)))))):L1 z0 z1 φ:=
 mIn <|
 mSt 4 h fun b1 h=>
 mRet 4 h
theorem enter (x0:Int) (φ:Int->Prop) (h :
 (if 4294967296<=x0 then
 q53_.L3 ((shrw .u64 x0 32)) 32 φ
 else
 q53_.L3 x0 0 φ)):∃ r,φ r/\C x0 r:=
 mEnt (fd:=Tryd.f104) (body:=B) (V:=W) (res:=res) <|
 mAsk 5 h dT dF (fun h=>
 mFin 10 h) fun h=>
 mFin 3 h
end q53_
namespace q62_
noncomputable def B:Code:=(Tryd.f87.body).getD .skip
def W:List Nat:=[0,2]
def res (r:Int):D×List D:=(.lit (.int .i64 r),[])
def C (x0 r:Int):Prop:=Ret env 87 [.lit (.int .u64 x0)] (res r).1 (res r).2
theorem enter (x0:Int) (φ:Int->Prop) (h :
 ∃ r1:Int,q53_.C x0 r1 /\
 φ r1):∃ r,φ r/\C x0 r:=
 mEnt (fd:=Tryd.f87) (body:=B) (V:=W) (res:=res) <|
 mCal 7 h (fun _ h=>h) fun r1 _ h=>
 mRet 2 h
end q62_
namespace q22_
end q22_
namespace q24_
end q24_
namespace q6_
def res (r:List Int):D×List D:=(.tup [],[.own (r.map (eI .u32))])
def C (x1 x2:Int) (k0_0 r:List Int):Prop:=Ret env 97 [.own (k0_0.map (eI .u32)),.lit (.int .i64 x1),.lit (.int .i64 x2),.fn 71 []] (res r).1 (res r).2
end q6_
namespace q14_
noncomputable def B:Code:=(Tryd.f86.body).getD .skip
def W:List Nat:=[0,1,2,3,4,10,11,12,13,14,15,16,17,18,19,20,25,32,39,56,75,80,97,125,1000000]
def res (r:List Int):D×List D:=(.tup [],[.own (r.map (eI .u32))])
def C (x1 x2 x3:Int) (k0_0 r:List Int):Prop:=Ret env 86 [.own (k0_0.map (eI .u32)),.lit (.int .i64 x1),.lit (.int .i64 x2),.lit (.int .i64 x3),.fn 71 []] (res r).1 (res r).2
def L1 (x1 x2 x3:Int) (z0 z1:Bool) (k0_0:List Int) (φ:List Int->Prop):Prop:=Pt env 86 W B [1,1,0] [(0,.alias 1000000 []),(1,.lit (.int .i64 x1)),(2,.lit (.int .i64 x2)),(3,.lit (.int .i64 x3)),(4,.fn 71 []),(10,.lit (.bool z0)),(11,.lit (.bool z1)),(1000000,.own (k0_0.map (eI .u32)))] (Lv env 86 Tryd.f86 5 res φ)
def L5 (x1 x2 x3:Int) (z0 z1:Bool) (k0_0:List Int) (φ:List Int->Prop):Prop:=Pt env 86 W B [1,1,0,0,0,1,1,1,1,0] [(0,.alias 1000000 []),(1,.lit (.int .i64 x1)),(2,.lit (.int .i64 x2)),(3,.lit (.int .i64 x3)),(4,.fn 71 []),(10,.lit (.bool z0)),(11,.lit (.bool z1)),(12,.lit (.int .i64 ((IntKind.wrap .i64 (x2-x1))))),(1000000,.own (k0_0.map (eI .u32)))] (Lv env 86 Tryd.f86 5 res φ)
theorem L1_step (x1 x2 x3:Int) (z0 z1:Bool) (k0_0:List Int) (φ:List Int->Prop) (h :
 (if (IntKind.wrap .i64 (x2-x1))<=12 then
 ∃ r100:List Int,q5_.C x1 x2 k0_0 r100 /\
 φ r100
 else
 (if x3=0 then
 ∃ r101:List Int,q13_.C x1 x2 k0_0 r101 /\
 φ r101
 else
 (if z0=true then
 q14_.L5 x1 x2 x3 z0 z1 k0_0 φ
 else
 ∃ r102:List Int,q6_.C x1 x2 k0_0 r102 /\
 q14_.L5 x1 x2 ((IntKind.wrap .i64 (x3-1))) z0 z1 r102 φ)))):L1 x1 x2 x3 z0 z1 k0_0 φ:=
 mIn <|
 mAsk 9 h dT dF (fun h=>
 mCal 7 h (fun _ h=>h) (hf:=(fun _=>Ai4 (Ad3 Abr) (Ab3 (e:=(eI .u32)) (fun _=>rfl)))) fun r100 _ h=>
 mRet 1 h) fun h=>
 mAsk 5 h Aaz Aay (fun h=>
 mCal 7 h (fun _ h=>h) (hf:=(fun _=>Ai4 (Ad3 Abr) (Ab3 (e:=(eI .u32)) (fun _=>rfl)))) fun r101 _ h=>
 mRet 1 h) fun h=>
 mAsk 4 h id fls (fun h=>
 mFin 4 h) fun h=>
 mCal 8 h (fun _ h=>h) (hf:=(fun _=>Ai4 (Ad3 Abr) (Ab3 (e:=(eI .u32)) (fun _=>rfl)))) fun r102 _ h=>
 mFin 6 h
theorem enter (x1 x2 x3:Int) (k0_0:List Int) (φ:List Int->Prop) (h :
 q14_.L1 x1 x2 x3 true true k0_0 φ):∃ r,φ r/\C x1 x2 x3 k0_0 r:=
 mEnt (fd:=Tryd.f86) (body:=B) (V:=W) (res:=res) <|
 mFin 6 h
end q14_
namespace q9_
noncomputable def B:Code:=(Tryd.f70.body).getD .skip
def W:List Nat:=[0,1,4,1000000]
def res (r:List Int):D×List D:=(.tup [],[.own (r.map (eI .u32))])
def C (k0_0 r:List Int):Prop:=Ret env 70 [.own (k0_0.map (eI .u32)),.fn 71 []] (res r).1 (res r).2
theorem enter (k0_0:List Int) (φ:List Int->Prop) (h :
 ∃ r1:Int,q62_.C ((IntKind.wrap .u64 (k0_0.length:Int))) r1 /\
 ∃ r2:List Int,q14_.C 0 ((k0_0.length:Int)) r1 k0_0 r2 /\
 φ r2):∃ r,φ r/\C k0_0 r:=
 mEnt (fd:=Tryd.f70) (body:=B) (V:=W) (res:=res) <|
 mLen 2 (eI .u32) k0_0 <|
 mCal 7 h (fun _ h=>h) fun r1 _ h=>
 mCal 1 h (fun _ h=>h) (hf:=(fun _=>Ai4 (Ad3 Abr) (Ab3 (e:=(eI .u32)) (fun _=>rfl)))) fun r2 _ h=>
 mRet 0 h
end q9_
namespace q18_
noncomputable def B:Code:=(Tryd.f72.body).getD .skip
def W:List Nat:=[0,2,3,4,5,8,13,25,32,44]
def res (r:(List Int×Bool)):D×List D:=((sown (r.1.map (eI .u32)) r.2),[])
def C (k0_0:List Int) (r:(List Int×Bool)):Prop:=Ret env 72 [.own (k0_0.map (eI .u32))] (res r).1 (res r).2
def L1 (k0_0:List Int) (z0:Int) (φ:(List Int×Bool)->Prop):Prop:=Pt env 72 W B [1,1,0,1,0] [(0,.own (k0_0.map (eI .u32))),(3,.lit (.int .i64 z0))] (Lv env 72 Tryd.f72 1 res φ)
def L2 (k0_0:List Int) (z0:Int) (y4_o_L2 y4_n_L2:Nat) (z1:Int) (φ:(List Int×Bool)->Prop):Prop:=Pt env 72 W B [1,1,0,1,0,0,1,0,0,1,0,1,0,1,0] [(0,.own (k0_0.map (eI .u32))),(3,.lit (.int .i64 z0)),(4,.sub 0 [] y4_o_L2 y4_n_L2),(5,.lit (.int .i64 z1))] (Lv env 72 Tryd.f72 1 res φ)
def L3 (z0:List Int) (z1:Int) (y4_o_L2 y4_n_L2:Nat) (z2:Int) (φ:(List Int×Bool)->Prop):Prop:=Pt env 72 W B [1,1,0,1,0,0,1,0,0,1,0,1,0,1,0,0,1,1] [(0,.own (z0.map (eI .u32))),(3,.lit (.int .i64 z1)),(4,.sub 0 [] y4_o_L2 y4_n_L2),(5,.lit (.int .i64 z2))] (Lv env 72 Tryd.f72 1 res φ)
theorem L1_step (k0_0:List Int) (z0:Int) (φ:(List Int×Bool)->Prop) (h :
 (if z0<(k0_0.length:Int) then
 ∃ a1,lget k0_0 z0=some a1 /\
 ∃ a3,lget k0_0 ((IntKind.wrap .i64 (z0-1)))=some a3 /\
 (if a1=a3 then
 0<=z0 /\
 (z0.toNat<=k0_0.length/\k0_0.length<=k0_0.length) /\
 q18_.L2 k0_0 z0 z0.toNat ((k0_0.length-z0.toNat)) 1 φ
 else
 q18_.L1 k0_0 ((IntKind.wrap .i64 (z0+1))) φ)
 else
 φ (⟨k0_0,true⟩))):L1 k0_0 z0 φ:=
 mIn <|
 mLen 4 (eI .u32) k0_0 <|
 mAsk 0 h dT dF (fun h=>
 mIy 6 (eI .u32) h fun a1 h2 h=>
 mLd 0 (eI .u32) h2 <|
 mIy 3 (eI .u32) h fun a3 h4 h=>
 mLd 0 (eI .u32) h4 <|
 mAsk 0 h Aaz Aay (fun h=>
 h.elim fun h5 h=>
 h.elim fun h6 h=>
 mVl 5 (Aju (s:=0) (ps:=[]) (t:=35) (x:=(.tmp 26)) (lo:=(some (.tmp 27))) (hi:=none) (lo':=some (z0).toNat) (hi':=none) (e:=(eI .u32)) (l:=k0_0) (et:=33) (k:=1) (by kernel_rfl) (by kernel_rfl) (Afs (by kernel_rfl)) (Af0 (i:=z0) (q:=.i64) (by kernel_rfl) h5) Aez (by kernel_rfl) (by kernel_rfl) (fun _=>rfl) (by kernel_rfl) h6.1 h6.2) <|
 mFin 5 h) fun h=>
 mFin 8 h) fun h=>
 mRet 7 h
theorem L2_step (k0_0:List Int) (z0:Int) (y4_o_L2 y4_n_L2:Nat) (z1:Int) (φ:(List Int×Bool)->Prop) (h :
 y4_o_L2+y4_n_L2<=k0_0.length /\
 (if z1<((List.take y4_n_L2 (List.drop y4_o_L2 k0_0)).length:Int) then
 ∃ a10,lget k0_0 (((y4_o_L2:Int)+z1))=some a10 /\
 (0<=z1/\z1<((y4_n_L2:Nat):Int)) /\
 y4_o_L2+y4_n_L2<=k0_0.length /\
 ∃ a14,lget k0_0 (((y4_o_L2:Int)+(IntKind.wrap .i64 (z1-1))))=some a14 /\
 (0<=(IntKind.wrap .i64 (z1-1))/\(IntKind.wrap .i64 (z1-1))<((y4_n_L2:Nat):Int)) /\
 y4_o_L2+y4_n_L2<=k0_0.length /\
 (if a10=a14 then
 q18_.L3 k0_0 z0 y4_o_L2 y4_n_L2 z1 φ
 else
 (0<=z1/\z1<((y4_n_L2:Nat):Int)) /\
 y4_o_L2+y4_n_L2<=k0_0.length /\
 ∃ a18,lget k0_0 z0=some a18 /\
 q18_.L3 ((lset k0_0 z0 a10)) ((IntKind.wrap .i64 (z0+1))) y4_o_L2 y4_n_L2 z1 φ)
 else
 0<=z0 /\
 (z0.toNat<=k0_0.length/\k0_0.length<=k0_0.length) /\
 z0.toNat+(k0_0.length-z0.toNat)<=k0_0.length /\
 0<=z0 /\
 z0.toNat+(k0_0.length-z0.toNat)<=k0_0.length /\
 z0.toNat<=k0_0.length /\
 (z0.toNat+(k0_0.length-z0.toNat)<=k0_0.length/\z0.toNat<=k0_0.length/\z0.toNat<=z0.toNat) /\
 φ (⟨(List.take z0.toNat k0_0),(!(((List.take z0.toNat k0_0)).isEmpty))⟩))):L2 k0_0 z0 y4_o_L2 y4_n_L2 z1 φ:=
 mIn <|
 h.elim fun h7 h=>
 mVl 4 (Ayk (x:=(.tmp 30)) (t:=35) (et:=33) (d:=.sub 0 [] y4_o_L2 y4_n_L2) (e:=(eI .u32)) (l:=(List.take y4_n_L2 (List.drop y4_o_L2 k0_0))) (by kernel_rfl) (by kernel_rfl) (Amr (s:=0) (ps:=[]) (l:=k0_0) (e:=(eI .u32)) (by kernel_rfl) h7) (by kernel_rfl)) <|
 mAsk 0 h dT dF (fun h=>
 h.elim fun a10 h=>h.elim fun h11 h=>
 h.elim fun h9 h=>
 h.elim fun h8 h=>
 mVl 6 (Aik (s:=0) (ps:=[]) (off:=y4_o_L2) (len:=y4_n_L2) (t:=35) (x:=(.tmp 35)) (ix:=(.tmp 36)) (et:=33) (k:=1) (e:=(eI .u32)) (l:=k0_0) (i:=z1) (q:=.i64) (a:=a10) (by kernel_rfl) (by kernel_rfl) (by kernel_rfl) (by kernel_rfl) (by kernel_rfl) (by kernel_rfl) h8 h9 h11 (by kernel_rfl)) <|
 mLd 0 (eI .u32) h11 <|
 h.elim fun a14 h=>h.elim fun h15 h=>
 h.elim fun h13 h=>
 h.elim fun h12 h=>
 mVl 3 (Aik (s:=0) (ps:=[]) (off:=y4_o_L2) (len:=y4_n_L2) (t:=35) (x:=(.tmp 39)) (ix:=(.tmp 41)) (et:=33) (k:=1) (e:=(eI .u32)) (l:=k0_0) (i:=(IntKind.wrap .i64 (z1-1))) (q:=.i64) (a:=a14) (by kernel_rfl) (by kernel_rfl) (by kernel_rfl) (by kernel_rfl) (by kernel_rfl) (by kernel_rfl) h12 h13 h15 (by kernel_rfl)) <|
 mLd 0 (eI .u32) h15 <|
 Ad0 0 h Acn Acm (fun h=>
 h.elim fun h17 h=>
 h.elim fun h16 h=>
 mVl 7 (Aik (s:=0) (ps:=[]) (off:=y4_o_L2) (len:=y4_n_L2) (t:=35) (x:=(.tmp 47)) (ix:=(.tmp 48)) (et:=33) (k:=1) (e:=(eI .u32)) (l:=k0_0) (i:=z1) (q:=.i64) (a:=a10) (by kernel_rfl) (by kernel_rfl) (by kernel_rfl) (by kernel_rfl) (by kernel_rfl) (by kernel_rfl) h16 h17 h11 (by kernel_rfl)) <|
 mLd 0 (eI .u32) h11 <|
 mIy 0 (eI .u32) h fun a18 h19 h=>
 mSto 0 (eI .u32) a10 h19 <|
 mFin 6 h) fun h=>
 mFin 3 h) fun h=>
 h.elim fun h20 h=>
 h.elim fun h21 h=>
 mVl 6 (Aju (s:=0) (ps:=[]) (t:=35) (x:=(.tmp 54)) (lo:=(some (.tmp 55))) (hi:=none) (lo':=some (z0).toNat) (hi':=none) (e:=(eI .u32)) (l:=k0_0) (et:=33) (k:=1) (by kernel_rfl) (by kernel_rfl) (Afs (by kernel_rfl)) (Af0 (i:=z0) (q:=.i64) (by kernel_rfl) h20) Aez (by kernel_rfl) (by kernel_rfl) (fun _=>rfl) (by kernel_rfl) h21.1 h21.2) <|
 h.elim fun h22 h=>
 mOp 0 (Bdi (t:=35) (x:=(.tmp 56)) (s:=0) (ps:=[]) (off:=z0.toNat) (len:=(k0_0.length-z0.toNat)) (l:=k0_0) (e:=(eI .u32)) (et:=33) (z:=.lit (.int .u32 0)) (k:=1) (by kernel_rfl) (by kernel_rfl) (by kernel_rfl) (by kernel_rfl) (by kernel_rfl) (by kernel_rfl) (by kernel_rfl) (by kernel_rfl) (fun _=>rfl) h22 (by kernel_rfl)) <|
 h.elim fun h23 h=>
 h.elim fun h24 h=>
 h.elim fun h25 h=>
 mVl 4 (Aur (t:=35) (x:=(.tmp 57)) (hi:=(some (.tmp 58))) (hi':=z0.toNat) (e:=(eI .u32)) (l:=k0_0) (off:=z0.toNat) (len:=(k0_0.length-z0.toNat)) (z:=.lit (.int .u32 0)) (et:=33) (k:=1) (s:=0) (ps:=[]) (by kernel_rfl) (by kernel_rfl) (by kernel_rfl) (Af0 (i:=z0) (q:=.i64) (by kernel_rfl) h23) (by kernel_rfl) (by kernel_rfl) (fun _=>rfl) (by kernel_rfl) (by kernel_rfl) h24 h25) <|
 h.elim fun h26 h=>
 mRet 2 h (hl:=(Bbd (t:=2) (s:=0) (n:=z0.toNat) (m:=(List.take z0.toNat k0_0)) (e:=(eI .u32)) (es:=clr (eI .u32) k0_0 z0.toNat (k0_0.length-z0.toNat) (.lit (.int .u32 0))) (by kernel_rfl) (by kernel_rfl) (by kernel_rfl) (by rw [Ay2 (by first | exact h26.1 | omega)];exact h26.2.1) (Bcp h26.1 h26.2.2) (by kernel_rfl)))
theorem L3_step (z0:List Int) (z1:Int) (y4_o_L2 y4_n_L2:Nat) (z2:Int) (φ:(List Int×Bool)->Prop) (h :
 q18_.L2 z0 z1 y4_o_L2 y4_n_L2 ((IntKind.wrap .i64 (z2+1))) φ):L3 z0 z1 y4_o_L2 y4_n_L2 z2 φ:=
 mIn <|
 mFin 5 h
theorem enter (k0_0:List Int) (φ:(List Int×Bool)->Prop) (h :
 (if (k0_0.length:Int)<2 then
 φ (⟨k0_0,true⟩)
 else
 q18_.L1 k0_0 1 φ)):∃ r,φ r/\C k0_0 r:=
 mEnt (fd:=Tryd.f72) (body:=B) (V:=W) (res:=res) <|
 mLen 5 (eI .u32) k0_0 <|
 mAsk 0 h dT dF (fun h=>
 mRet 6 h) fun h=>
 mFin 6 h
end q18_
namespace q63_
noncomputable def B:Code:=(Tryd.f50.body).getD .skip
def W:List Nat:=[0,2,3]
def res (r:List Int):D×List D:=(.sl (r.map (eI .u32)),[])
def C (x0 r:List Int):Prop:=Ret env 50 [.sl (x0.map (eI .u32))] (res r).1 (res r).2
theorem enter (x0:List Int) (φ:List Int->Prop) (h :
 x0.length*4<=140737488355328 /\
 ∃ r2:List Int,q9_.C x0 r2 /\
 ∃ r3:(List Int×Bool),q18_.C r2 r3 /\
 φ r3.1):∃ r,φ r/\C x0 r:=
 mEnt (fd:=Tryd.f50) (body:=B) (V:=W) (res:=res) <|
 h.elim fun h1 h=>
 Azh 5 (show Ret env 69 [.sl (x0.map (eI .u32))] (.own (x0.map (eI .u32))) [] from Aub (k:=1) (b:=4) (e:=(eI .u32)) (l:=x0) (by kernel_rfl) (fun _=>rfl) h1) (hf:=(Ab0 (Ab3 (e:=(eI .u32)) (fun _=>rfl)) rfl)) <|
 mCal 4 h (fun _ h=>h) (hf:=(fun _=>Ai4 (Ad3 Abr) (Ab3 (e:=(eI .u32)) (fun _=>rfl)))) fun r2 _ h=>
 Azg 3 h (fun _ h=>h) (fun (r3:(List Int×Bool))=>Baq (l:=r3.1) (e:=(eI .u32)) rfl (fun _=>rfl)) (hf:=(fun _=>Ban (Bb0 (e:=(eI .u32)) (fun _=>rfl)) rfl)) fun r3 _ h=>
 mRet 2 h
end q63_
namespace q79_
noncomputable def B:Code:=(Tryd.f44.body).getD .skip
def W:List Nat:=[0,1,2,4,5,7,8,9,11,12,13,14]
def res (r:ByteArray):D×List D:=(.lit (.string r),[])
def C (x0:api_Row) (x1:Int) (r:ByteArray):Prop:=Ret env 44 [.agg [.lit (.int .i64 x0.ID),.sl (x0.Values.map Aa1)],.lit (.int .u32 x1)] (res r).1 (res r).2
def L1 (x0:api_Row) (z0:ByteArray) (r1:List Int) (z1:Int) (φ:ByteArray->Prop):Prop:=Pt env 44 W B [1,1,0,1,0] [(0,.agg [.lit (.int .i64 x0.ID),.sl (x0.Values.map Aa1)]),(2,.box [.lit (.int .i64 x0.ID),.sl (x0.Values.map Aa1)]),(5,.lit (.string z0)),(11,.own (r1.map (eI .i64))),(12,.lit (.int .i64 ((r1.length:Int)))),(13,.lit (.int .i64 z1))] (Lv env 44 Tryd.f44 2 res φ)
theorem L1_step (x0:api_Row) (z0:ByteArray) (r1:List Int) (z1:Int) (φ:ByteArray->Prop) (h :
 (if z1<(r1.length:Int) then
 ∃ a2,lget r1 z1=some a2 /\
 ∃ a4,lget x0.Values a2=some a4 /\
 ∃ r6:ByteArray×Int,q78_.C a4 r6 /\
 (z0).size+(r6.1).size<=9223372036854775807 /\
 q79_.L1 x0 ((z0++r6.1)) r1 ((IntKind.wrap .i64 (z1+1))) φ
 else
 φ z0)):L1 x0 z0 r1 z1 φ:=
 mIn <|
 mAsk 2 h dT dF (fun h=>
 mIy 4 (eI .i64) h fun a2 h3 h=>
 mLd 0 (eI .i64) h3 <|
 mIx 6 Aa1 h fun a4 h5 h=>
 mCal 1 h (fun _ h=>h) (hf:=(fun _=>Ab0 (Ad3 (Aaq rfl (Aaq rfl Abr))) rfl)) fun r6 _ h=>
 h.elim fun h7 h=>
 mBi 9 (Bed (t:=9) h7) <|
 mFin 6 h) fun h=>
 mRet 7 h
theorem enter (x0:api_Row) (x1:Int) (φ:ByteArray->Prop) (h :
 ∃ r1:List Int,q47_.C x1 r1 /\
 q79_.L1 x0 ((⟨#[]⟩:ByteArray)) r1 0 φ):∃ r,φ r/\C x0 x1 r:=
 mEnt (fd:=Tryd.f44) (body:=B) (V:=W) (res:=res) <|
 mCal 9 h (fun _ h=>h) (hf:=(fun _=>Ab0 (Ab3 (e:=(eI .i64)) (fun _=>rfl)) rfl)) fun r1 _ h=>
 mLen 0 (eI .i64) r1 <|
 mFin 2 h
end q79_
namespace q74_
def res (r:Bool×Int):D×List D:=(.tup [.lit (.bool r.1),.lit (.int .i64 r.2)],[])
def C (x0:api_Table) (x1:api_MVD) (r:Bool×Int):Prop:=Ret env 27 [.agg [.lit (.string x0.Name),.sl (x0.Attrs.map eS),.sl (x0.Rows.map Aa2)],.agg [.lit (.int .u32 x1.Lhs),.lit (.int .u32 x1.Rhs)]] (res r).1 (res r).2
end q74_
namespace q70_
def res (r:List Int):D×List D:=(.sl (r.map (eI .u32)),[])
def C (x0:Int) (x1:List api_MVD) (x2:Int) (r:List Int):Prop:=Ret env 33 [.lit (.int .i64 x0),.sl (x1.map Aa3),.lit (.int .u32 x2)] (res r).1 (res r).2
end q70_
namespace q80_
noncomputable def B:Code:=(Tryd.f34.body).getD .skip
def W:List Nat:=[0,1,4,5,7,9,12,13,14,15,20,21,22,23]
def res (r:List api_MVD):D×List D:=(.own (r.map Aa3),[])
def C (x0:List api_FD) (x1 r:List api_MVD):Prop:=Ret env 34 [.sl (x0.map Aa4),.sl (x1.map Aa3)] (res r).1 (res r).2
def L1 (x0:List api_FD) (x1:List api_MVD) (z0:Int) (φ:List api_MVD->Prop):Prop:=Pt env 34 W B [1,1,0,1,0] [(0,.sl (x0.map Aa4)),(5,.own (x1.map Aa3)),(12,.sl (x0.map Aa4)),(13,.lit (.int .i64 ((x0.length:Int)))),(14,.lit (.int .i64 z0))] (Lv env 34 Tryd.f34 2 res φ)
def L2 (x0:List api_FD) (x1:List api_MVD) (a2:api_FD) (z0:Int) (r4:List Int) (z1:Int) (φ:List api_MVD->Prop):Prop:=Pt env 34 W B [1,1,0,1,0,0,1,1,0,0,1,1,0] [(0,.sl (x0.map Aa4)),(5,.own (x1.map Aa3)),(7,.box [.lit (.int .u32 a2.Lhs),.lit (.int .u32 a2.Rhs)]),(12,.sl (x0.map Aa4)),(13,.lit (.int .i64 ((x0.length:Int)))),(14,.lit (.int .i64 z0)),(20,.own (r4.map (eI .i64))),(21,.lit (.int .i64 ((r4.length:Int)))),(22,.lit (.int .i64 z1))] (Lv env 34 Tryd.f34 2 res φ)
theorem L1_step (x0:List api_FD) (x1:List api_MVD) (z0:Int) (φ:List api_MVD->Prop) (h :
 (if z0<(x0.length:Int) then
 ∃ a2,lget x0 z0=some a2 /\
 ∃ r4:List Int,q47_.C a2.Rhs r4 /\
 q80_.L2 x0 x1 a2 z0 r4 0 φ
 else
 φ x1)):L1 x0 x1 z0 φ:=
 mIn <|
 mAsk 2 h dT dF (fun h=>
 mIx 4 Aa4 h fun a2 h3 h=>
 mCal 7 h (fun _ h=>h) (hf:=(fun _=>Ab0 (Ab3 (e:=(eI .i64)) (fun _=>rfl)) rfl)) fun r4 _ h=>
 mLen 0 (eI .i64) r4 <|
 mFin 2 h) fun h=>
 mRet 7 h
theorem L2_step (x0:List api_FD) (x1:List api_MVD) (a2:api_FD) (z0:Int) (r4:List Int) (z1:Int) (φ:List api_MVD->Prop) (h :
 (if z1<(r4.length:Int) then
 ∃ a5,lget r4 z1=some a5 /\
 0<=a5 /\
 (x1.length+1)*8<=140737488355328 /\
 q80_.L2 x0 ((x1++[(⟨a2.Lhs,(shlw .u32 1 a5)⟩:api_MVD)])) a2 z0 r4 ((IntKind.wrap .i64 (z1+1))) φ
 else
 q80_.L1 x0 x1 ((IntKind.wrap .i64 (z0+1))) φ)):L2 x0 x1 a2 z0 r4 z1 φ:=
 mIn <|
 mAsk 2 h dT dF (fun h=>
 mIy 4 (eI .i64) h fun a5 h6 h=>
 mLd 0 (eI .i64) h6 <|
 h.elim fun h7 h=>
 mBi 7 (Ash (t:=33) (q:=.u32) (q':=.i64) (i1:=1) h7) <|
 mApp 2 Aa3 x1 ([(⟨a2.Lhs,(shlw .u32 1 a5)⟩:api_MVD)]) h fun h=>
 mFin 6 h) fun h=>
 mFin 7 h
theorem enter (x0:List api_FD) (x1:List api_MVD) (φ:List api_MVD->Prop) (h :
 x1.length*8<=140737488355328 /\
 q80_.L1 x0 x1 0 φ):∃ r,φ r/\C x0 x1 r:=
 mEnt (fd:=Tryd.f34) (body:=B) (V:=W) (res:=res) <|
 h.elim fun h1 h=>
 Azh 5 (show Ret env 14 [.sl (x1.map Aa3)] (.own (x1.map Aa3)) [] from Aub (k:=2) (b:=8) (e:=Aa3) (l:=x1) (by kernel_rfl) (fun _=>rfl) h1) (hf:=(Ab0 (Ab3 (e:=Aa3) (fun _=>rfl)) rfl)) <|
 mLen 4 Aa4 x0 <|
 mFin 2 h
end q80_
namespace q54_
noncomputable def B:Code:=(Tryd.f17.body).getD .skip
def W:List Nat:=[0,1,4,5,6,7,13]
def res (r:List api_FD):D×List D:=(.own (r.map Aa4),[])
def C (x0:Int) (x1:List drossref09_Dep) (r:List api_FD):Prop:=Ret env 17 [.lit (.int .i64 x0),.sl (x1.map Aa5)] (res r).1 (res r).2
def L1 (x1:List drossref09_Dep) (r1:Int) (z0:List api_FD) (z1:Int) (φ:List api_FD->Prop):Prop:=Pt env 17 W B [1,1,1,0,1,0] [(1,.sl (x1.map Aa5)),(5,.lit (.int .u32 r1)),(6,.own (z0.map Aa4)),(7,.lit (.int .i64 z1))] (Lv env 17 Tryd.f17 2 res φ)
theorem L1_step (x1:List drossref09_Dep) (r1:Int) (z0:List api_FD) (z1:Int) (φ:List api_FD->Prop) (h :
 (if z1<(x1.length:Int) then
 ∃ a2,lget x1 z1=some a2 /\
 (z0.length+1)*8<=140737488355328 /\
 q54_.L1 x1 r1 ((z0++[(⟨(bAnd .u32 (IntKind.wrap .u32 a2.L) r1),(bAnd .u32 (IntKind.wrap .u32 a2.R) r1)⟩:api_FD)])) ((IntKind.wrap .i64 (z1+1))) φ
 else
 φ z0)):L1 x1 r1 z0 z1 φ:=
 mIn <|
 mLen 4 Aa5 x1 <|
 mAsk 0 h dT dF (fun h=>
 mIx 7 Aa5 h fun a2 h3 h=>
 mIxf 7 Aa5 h3 <|
 mApp 7 Aa4 z0 ([(⟨(bAnd .u32 (IntKind.wrap .u32 a2.L) r1),(bAnd .u32 (IntKind.wrap .u32 a2.R) r1)⟩:api_FD)]) h fun h=>
 mFin 7 h) fun h=>
 mRet 7 h
theorem enter (x0:Int) (x1:List drossref09_Dep) (φ:List api_FD->Prop) (h :
 ∃ r1:Int,q48_.C x0 r1 /\
 q54_.L1 x1 r1 ([]) 0 φ):∃ r,φ r/\C x0 x1 r:=
 mEnt (fd:=Tryd.f17) (body:=B) (V:=W) (res:=res) <|
 mCal 5 h (fun _ h=>h) fun r1 _ h=>
 mFin 8 h
end q54_
namespace q75_
noncomputable def B:Code:=(Tryd.f32.body).getD .skip
def W:List Nat:=[0,1,2,3,8,9,15,20]
def res (r:Int):D×List D:=(.lit (.int .i64 r),[])
def C (x0:Int) (x1:List api_FD) (x2:List api_MVD) (x3 r:Int):Prop:=Ret env 32 [.lit (.int .i64 x0),.sl (x1.map Aa4),.sl (x2.map Aa3),.lit (.int .u32 x3)] (res r).1 (res r).2
theorem enter (x0:Int) (x1:List api_FD) (x2:List api_MVD) (x3:Int) (φ:Int->Prop) (h :
 ∃ r1:Int,q73_.C x0 x1 x2 r1 /\
 (if r1=0 then
 0<=x0 /\
 (if (shrw .u32 x3 x0)=0 then
 φ 0
 else
 φ 1)
 else
 φ r1)):∃ r,φ r/\C x0 x1 x2 x3 r:=
 mEnt (fd:=Tryd.f32) (body:=B) (V:=W) (res:=res) <|
 mCal 7 h (fun _ h=>h) fun r1 _ h=>
 Ad0 4 h Acn Acm (fun h=>
 mRet 6 h) fun h=>
 h.elim fun h2 h=>
 mBi 6 (Al2 (t:=33) (q:=.u32) (q':=.i64) (i1:=x3) h2) <|
 Ad0 0 h Acn Acm (fun h=>
 mRet 5 h) fun h=>
 mRet 6 h
end q75_
namespace q64_
noncomputable def B:Code:=(Tryd.f41.body).getD .skip
def W:List Nat:=[0,1,2,3]
def res (r:Bool):D×List D:=(.lit (.bool r),[])
def C (x0:api_FD) (k1_0:Int) (r:Bool):Prop:=Ret env 41 [.agg [.lit (.int .u32 x0.Lhs),.lit (.int .u32 x0.Rhs)],.ref [.lit (.int .u32 k1_0)]] (res r).1 (res r).2
theorem enter (x0:api_FD) (k1_0:Int) (φ:Bool->Prop) (h :
 φ (((bAnd .u32 (Aag .u32 x0.Rhs x0.Lhs) k1_0) != 0))):∃ r,φ r/\C x0 k1_0 r:=
 mEnt (fd:=Tryd.f41) (body:=B) (V:=W) (res:=res) <|
 mRet 15 h
end q64_
namespace q15_
noncomputable def B:Code:=(Tryd.f57.body).getD .skip
def W:List Nat:=[0,1,4,5,7,8,9,16]
def res (r:Int):D×List D:=(.lit (.int .i64 r),[])
def C (x0:List api_FD) (k1_0 r:Int):Prop:=Ret env 57 [.sl (x0.map Aa4),.fn 41 [.ref [.lit (.int .u32 k1_0)]]] (res r).1 (res r).2
def L1 (x0:List api_FD) (k1_0 z0:Int) (φ:Int->Prop):Prop:=Pt env 57 W B [1,0,1,0] [(0,.sl (x0.map Aa4)),(1,.fn 41 [.ref [.lit (.int .u32 k1_0)]]),(7,.lit (.int .i64 ((x0.length:Int)))),(8,.lit (.int .i64 z0))] (Lv env 57 Tryd.f57 2 res φ)
theorem L1_step (x0:List api_FD) (k1_0 z0:Int) (φ:Int->Prop) (h :
 (if z0<(x0.length:Int) then
 ∃ a1,lget x0 z0=some a1 /\
 ∃ r3:Bool,q64_.C a1 k1_0 r3 /\
 (if r3=true then
 φ z0
 else
 q15_.L1 x0 k1_0 ((IntKind.wrap .i64 (z0+1))) φ)
 else
 φ ((-1)))):L1 x0 k1_0 z0 φ:=
 mIn <|
 mAsk 2 h dT dF (fun h=>
 mIx 11 Aa4 h fun a1 h2 h=>
 Ac2 1 h (fun _ h=>h) (fun _ h=>
 mRet 6 h) fun _ h=>
 mFin 7 h) fun h=>
 mRet 6 h
theorem enter (x0:List api_FD) (k1_0:Int) (φ:Int->Prop) (h :
 q15_.L1 x0 k1_0 0 φ):∃ r,φ r/\C x0 k1_0 r:=
 mEnt (fd:=Tryd.f57) (body:=B) (V:=W) (res:=res) <|
 mLen 5 Aa4 x0 <|
 mFin 2 h
end q15_
namespace q10_
noncomputable def B:Code:=(Tryd.f40.body).getD .skip
def W:List Nat:=[0,1,4]
def res (r:Bool):D×List D:=(.lit (.bool r),[])
def C (x0:List api_FD) (k1_0:Int) (r:Bool):Prop:=Ret env 40 [.sl (x0.map Aa4),.fn 41 [.ref [.lit (.int .u32 k1_0)]]] (res r).1 (res r).2
theorem enter (x0:List api_FD) (k1_0:Int) (φ:Bool->Prop) (h :
 ∃ r1:Int,q15_.C x0 k1_0 r1 /\
 φ ((decide (0<=r1)))):∃ r,φ r/\C x0 k1_0 r:=
 mEnt (fd:=Tryd.f40) (body:=B) (V:=W) (res:=res) <|
 mCal 6 h (fun _ h=>h) fun r1 _ h=>
 mRet 3 h
end q10_
namespace q76_
noncomputable def B:Code:=(Tryd.f18.body).getD .skip
def W:List Nat:=[0,1,2,3,8,9,10,11,13,20,28,29,30,31,36,39]
def res (r:Int×Int):D×List D:=(.tup [.lit (.int .u32 r.1),.lit (.int .i64 r.2)],[])
def C (x0:Int) (x1:List api_FD) (x2:List api_MVD) (x3:Int) (r:Int×Int):Prop:=Ret env 18 [.lit (.int .i64 x0),.sl (x1.map Aa4),.sl (x2.map Aa3),.lit (.int .u32 x3)] (res r).1 (res r).2
def L1 (x1:List api_FD) (x3:Int) (r3:List Int) (z0:Int) (φ:Int×Int->Prop):Prop:=Pt env 18 W B [1,1,1,0,1,0] [(1,.sl (x1.map Aa4)),(11,.lit (.int .u32 x3)),(28,.sl (r3.map (eI .u32))),(29,.lit (.int .i64 ((r3.length:Int)))),(30,.lit (.int .i64 z0))] (Lv env 18 Tryd.f18 4 res φ)
def L2 (x1:List api_FD) (x3:Int) (r3:List Int) (z0:Int) (φ:Int×Int->Prop):Prop:=Pt env 18 W B [1,1,1,0,1,0,0,1,1,1] [(1,.sl (x1.map Aa4)),(11,.lit (.int .u32 x3)),(28,.sl (r3.map (eI .u32))),(29,.lit (.int .i64 ((r3.length:Int)))),(30,.lit (.int .i64 z0))] (Lv env 18 Tryd.f18 4 res φ)
theorem L1_step (x1:List api_FD) (x3:Int) (r3:List Int) (z0:Int) (φ:Int×Int->Prop) (h :
 (if z0<(r3.length:Int) then
 ∃ a4,lget r3 z0=some a4 /\
 ∃ r6:Int,q69_.C a4 r6 /\
 (if r6=1 then
 ∃ r7:Bool,q10_.C x1 a4 r7 /\
 (if r7=true then
 q76_.L2 x1 ((bOr .u32 x3 a4)) r3 z0 φ
 else
 q76_.L2 x1 x3 r3 z0 φ)
 else
 q76_.L2 x1 x3 r3 z0 φ)
 else
 φ ((x3,0)))):L1 x1 x3 r3 z0 φ:=
 mIn <|
 mAsk 2 h dT dF (fun h=>
 mIx 4 (eI .u32) h fun a4 h5 h=>
 mCal 6 h (fun _ h=>h) fun r6 _ h=>
 Ad0 0 h Acn Acm (fun h=>
 mFin 3 h) fun h=>
 Ac2 6 h (fun _ h=>h) (fun _ h=>
 mFin 8 h) fun _ h=>
 mFin 3 h) fun h=>
 mRet 8 h
theorem L2_step (x1:List api_FD) (x3:Int) (r3:List Int) (z0:Int) (φ:Int×Int->Prop) (h :
 q76_.L1 x1 x3 r3 ((IntKind.wrap .i64 (z0+1))) φ):L2 x1 x3 r3 z0 φ:=
 mIn <|
 mFin 4 h
theorem enter (x0:Int) (x1:List api_FD) (x2:List api_MVD) (x3:Int) (φ:Int×Int->Prop) (h :
 ∃ r1:Int,q75_.C x0 x1 x2 x3 r1 /\
 (if r1=0 then
 ∃ r2:List api_MVD,q80_.C x1 x2 r2 /\
 ∃ r3:List Int,q70_.C x0 r2 x3 r3 /\
 q76_.L1 x1 x3 r3 0 φ
 else
 φ ((0,r1)))):∃ r,φ r/\C x0 x1 x2 x3 r:=
 mEnt (fd:=Tryd.f18) (body:=B) (V:=W) (res:=res) <|
 mCal 9 h (fun _ h=>h) fun r1 _ h=>
 Ad0 4 h Acn Acm (fun h=>
 mRet 7 h) fun h=>
 Azg 11 h (fun _ h=>h) (fun (r2:List api_MVD)=>Ay3 (l:=r2) (e:=Aa3) (e':=Aa3) rfl (fun _=>rfl)) (hf:=(fun _=>Ab0 (Ab3 (e:=Aa3) (fun _=>rfl)) rfl)) fun r2 _ h=>
 mCal 1 h (fun _ h=>h) (hf:=(fun _=>Bcm)) fun r3 _ h=>
 mLen 0 (eI .u32) r3 <|
 mFin 2 h
end q76_
namespace q55_
noncomputable def B:Code:=(Tryd.f22.body).getD .skip
def W:List Nat:=[0,1,4,5,6,7,14]
def res (r:List api_MVD):D×List D:=(.own (r.map Aa3),[])
def C (x0:Int) (x1:List drossref09_Dep) (r:List api_MVD):Prop:=Ret env 22 [.lit (.int .i64 x0),.sl (x1.map Aa5)] (res r).1 (res r).2
def L1 (z0:List api_MVD) (r1:List api_FD) (z1:Int) (φ:List api_MVD->Prop):Prop:=Pt env 22 W B [1,1,1,0,1,0] [(5,.own (z0.map Aa3)),(6,.own (r1.map Aa4)),(7,.lit (.int .i64 z1))] (Lv env 22 Tryd.f22 2 res φ)
theorem L1_step (z0:List api_MVD) (r1:List api_FD) (z1:Int) (φ:List api_MVD->Prop) (h :
 (if z1<(r1.length:Int) then
 ∃ a2,lget r1 z1=some a2 /\
 (z0.length+1)*8<=140737488355328 /\
 q55_.L1 ((z0++[(⟨a2.Lhs,a2.Rhs⟩:api_MVD)])) r1 ((IntKind.wrap .i64 (z1+1))) φ
 else
 φ z0)):L1 z0 r1 z1 φ:=
 mIn <|
 mLen 4 Aa4 r1 <|
 mAsk 0 h dT dF (fun h=>
 mIy 7 Aa4 h fun a2 h3 h=>
 mLd 1 Aa4 h3 <|
 mIyf 2 Aa4 h3 <|
 mLd 1 Aa4 h3 <|
 mApp 2 Aa3 z0 ([(⟨a2.Lhs,a2.Rhs⟩:api_MVD)]) h fun h=>
 mFin 7 h) fun h=>
 mRet 7 h
theorem enter (x0:Int) (x1:List drossref09_Dep) (φ:List api_MVD->Prop) (h :
 ∃ r1:List api_FD,q54_.C x0 x1 r1 /\
 q55_.L1 ([]) r1 0 φ):∃ r,φ r/\C x0 x1 r:=
 mEnt (fd:=Tryd.f22) (body:=B) (V:=W) (res:=res) <|
 mCal 9 h (fun _ h=>h) (hf:=(fun _=>Ab0 (Ab3 (e:=Aa4) (fun _=>rfl)) rfl)) fun r1 _ h=>
 mFin 5 h
end q55_
namespace q56_
noncomputable def B:Code:=(Tryd.f19.body).getD .skip
def W:List Nat:=[0,1,2,3,7,8,9,10,11,12,23]
def res (r:Bool×Int):D×List D:=(.tup [.lit (.bool r.1),.lit (.int .i64 r.2)],[])
def C (x0:Int) (x1:List api_FD) (x2:List api_MVD) (x3:api_FD) (r:Bool×Int):Prop:=Ret env 19 [.lit (.int .i64 x0),.sl (x1.map Aa4),.sl (x2.map Aa3),.agg [.lit (.int .u32 x3.Lhs),.lit (.int .u32 x3.Rhs)]] (res r).1 (res r).2
theorem enter (x0:Int) (x1:List api_FD) (x2:List api_MVD) (x3:api_FD) (φ:Bool×Int->Prop) (h :
 ∃ r1:Int,q75_.C x0 x1 x2 ((bOr .u32 x3.Lhs x3.Rhs)) r1 /\
 (if r1=0 then
 ∃ r2:Int×Int,q76_.C x0 x1 x2 x3.Lhs r2 /\
 φ ((((Aag .u32 x3.Rhs r2.1) == 0),0))
 else
 φ ((false,r1)))):∃ r,φ r/\C x0 x1 x2 x3 r:=
 mEnt (fd:=Tryd.f19) (body:=B) (V:=W) (res:=res) <|
 mCal 14 h (fun _ h=>h) fun r1 _ h=>
 Ad0 4 h Acn Acm (fun h=>
 mRet 7 h) fun h=>
 mCal 9 h (fun _ h=>h) (hf:=(fun _=>Ab0 (Ad3 (Aaq rfl (Aaq rfl Abr))) rfl)) fun r2 _ h=>
 mRet 15 h
end q56_
namespace q42_
noncomputable def B:Code:=(Tryd.f23.body).getD .skip
def W:List Nat:=[0,1,2,3,7,8,9,10,12,23,31,32,33,34,48]
def res (r:Bool×Int):D×List D:=(.tup [.lit (.bool r.1),.lit (.int .i64 r.2)],[])
def C (x0:Int) (x1:List api_FD) (x2:List api_MVD) (x3:api_MVD) (r:Bool×Int):Prop:=Ret env 23 [.lit (.int .i64 x0),.sl (x1.map Aa4),.sl (x2.map Aa3),.agg [.lit (.int .u32 x3.Lhs),.lit (.int .u32 x3.Rhs)]] (res r).1 (res r).2
def L1 (x3:api_MVD) (r3:List Int) (z0:Int) (φ:Bool×Int->Prop):Prop:=Pt env 23 W B [1,1,0,1,0] [(3,.agg [.lit (.int .u32 x3.Lhs),.lit (.int .u32 x3.Rhs)]),(7,.box [.lit (.int .u32 x3.Lhs),.lit (.int .u32 x3.Rhs)]),(31,.sl (r3.map (eI .u32))),(32,.lit (.int .i64 ((r3.length:Int)))),(33,.lit (.int .i64 z0))] (Lv env 23 Tryd.f23 4 res φ)
def L2 (x3:api_MVD) (r3:List Int) (z0:Int) (φ:Bool×Int->Prop):Prop:=Pt env 23 W B [1,1,0,1,0,0,1,1,1] [(3,.agg [.lit (.int .u32 x3.Lhs),.lit (.int .u32 x3.Rhs)]),(7,.box [.lit (.int .u32 x3.Lhs),.lit (.int .u32 x3.Rhs)]),(31,.sl (r3.map (eI .u32))),(32,.lit (.int .i64 ((r3.length:Int)))),(33,.lit (.int .i64 z0))] (Lv env 23 Tryd.f23 4 res φ)
theorem L1_step (x3:api_MVD) (r3:List Int) (z0:Int) (φ:Bool×Int->Prop) (h :
 (if z0<(r3.length:Int) then
 ∃ a4,lget r3 z0=some a4 /\
 (if (bAnd .u32 a4 x3.Rhs)=0 then
 q42_.L2 x3 r3 z0 φ
 else
 (if (Aag .u32 a4 x3.Rhs)=0 then
 q42_.L2 x3 r3 z0 φ
 else
 φ ((false,0))))
 else
 φ ((true,0)))):L1 x3 r3 z0 φ:=
 mIn <|
 mAsk 2 h dT dF (fun h=>
 mIx 4 (eI .u32) h fun a4 h5 h=>
 Ad0 8 h Acn Acm (fun h=>
 Ad0 5 h Acn Acm (fun h=>
 mRet 7 h) fun h=>
 mFin 4 h) fun h=>
 mFin 10 h) fun h=>
 mRet 7 h
theorem L2_step (x3:api_MVD) (r3:List Int) (z0:Int) (φ:Bool×Int->Prop) (h :
 q42_.L1 x3 r3 ((IntKind.wrap .i64 (z0+1))) φ):L2 x3 r3 z0 φ:=
 mIn <|
 mFin 4 h
theorem enter (x0:Int) (x1:List api_FD) (x2:List api_MVD) (x3:api_MVD) (φ:Bool×Int->Prop) (h :
 ∃ r1:Int,q75_.C x0 x1 x2 ((bOr .u32 x3.Lhs x3.Rhs)) r1 /\
 (if r1=0 then
 ∃ r2:List api_MVD,q80_.C x1 x2 r2 /\
 ∃ r3:List Int,q70_.C x0 r2 x3.Lhs r3 /\
 q42_.L1 x3 r3 0 φ
 else
 φ ((false,r1)))):∃ r,φ r/\C x0 x1 x2 x3 r:=
 mEnt (fd:=Tryd.f23) (body:=B) (V:=W) (res:=res) <|
 mCal 14 h (fun _ h=>h) fun r1 _ h=>
 Ad0 4 h Acn Acm (fun h=>
 mRet 7 h) fun h=>
 mLoE 7 h (fun _ h=>h) (fun (r2:List api_MVD)=>Ay3 (l:=r2) (e:=Aa3) (e':=Aa3) rfl (fun _=>rfl)) (hf:=(fun _=>Aq2 (Ab3 (e:=Aa3) (fun _=>rfl)))) fun r2 _ h=>
 mLo 2 h (fun _ h=>h) (hf:=(fun _=>Bfb)) fun r3 _ h=>
 mLen 0 (eI .u32) r3 <|
 mFin 2 h
end q42_
namespace q65_
noncomputable def B:Code:=(Tryd.f30.body).getD .skip
def W:List Nat:=[0,1,2,3,4,5,6,11,16,47]
def res (r:Bool):D×List D:=(.lit (.bool r),[])
def C (x0:api_Table) (x1:api_FD) (r:Bool):Prop:=Ret env 30 [.agg [.lit (.string x0.Name),.sl (x0.Attrs.map eS),.sl (x0.Rows.map Aa2)],.agg [.lit (.int .u32 x1.Lhs),.lit (.int .u32 x1.Rhs)]] (res r).1 (res r).2
def L1 (x0:api_Table) (x1:api_FD) (z0:Int) (φ:Bool->Prop):Prop:=Pt env 30 W B [1,0,1,0] [(0,.agg [.lit (.string x0.Name),.sl (x0.Attrs.map eS),.sl (x0.Rows.map Aa2)]),(1,.agg [.lit (.int .u32 x1.Lhs),.lit (.int .u32 x1.Rhs)]),(2,.box [.lit (.string x0.Name),.sl (x0.Attrs.map eS),.sl (x0.Rows.map Aa2)]),(3,.box [.lit (.int .u32 x1.Lhs),.lit (.int .u32 x1.Rhs)]),(5,.lit (.int .i64 z0))] (Lv env 30 Tryd.f30 2 res φ)
def L2 (x0:api_Table) (x1:api_FD) (z0 z1:Int) (φ:Bool->Prop):Prop:=Pt env 30 W B [1,0,1,0,0,1,0,0,1,0] [(0,.agg [.lit (.string x0.Name),.sl (x0.Attrs.map eS),.sl (x0.Rows.map Aa2)]),(1,.agg [.lit (.int .u32 x1.Lhs),.lit (.int .u32 x1.Rhs)]),(2,.box [.lit (.string x0.Name),.sl (x0.Attrs.map eS),.sl (x0.Rows.map Aa2)]),(3,.box [.lit (.int .u32 x1.Lhs),.lit (.int .u32 x1.Rhs)]),(5,.lit (.int .i64 z0)),(6,.lit (.int .i64 z1))] (Lv env 30 Tryd.f30 2 res φ)
def L3 (x0:api_Table) (x1:api_FD) (z0 z1:Int) (φ:Bool->Prop):Prop:=Pt env 30 W B [1,0,1,0,0,1,0,0,1,0,0,1,1] [(0,.agg [.lit (.string x0.Name),.sl (x0.Attrs.map eS),.sl (x0.Rows.map Aa2)]),(1,.agg [.lit (.int .u32 x1.Lhs),.lit (.int .u32 x1.Rhs)]),(2,.box [.lit (.string x0.Name),.sl (x0.Attrs.map eS),.sl (x0.Rows.map Aa2)]),(3,.box [.lit (.int .u32 x1.Lhs),.lit (.int .u32 x1.Rhs)]),(5,.lit (.int .i64 z0)),(6,.lit (.int .i64 z1))] (Lv env 30 Tryd.f30 2 res φ)
theorem L1_step (x0:api_Table) (x1:api_FD) (z0:Int) (φ:Bool->Prop) (h :
 (if z0<(x0.Rows.length:Int) then
 q65_.L2 x0 x1 z0 0 φ
 else
 φ true)):L1 x0 x1 z0 φ:=
 mIn <|
 mLen 5 Aa2 x0.Rows <|
 mAsk 0 h dT dF (fun h=>
 mFin 6 h) fun h=>
 mRet 6 h
theorem L2_step (x0:api_Table) (x1:api_FD) (z0 z1:Int) (φ:Bool->Prop) (h :
 (if z1<z0 then
 ∃ a1,lget x0.Rows z0=some a1 /\
 ∃ a3,lget x0.Rows z1=some a3 /\
 ∃ r5:Bool,q39_.C a1 a3 x1.Lhs r5 /\
 (if r5=true then
 ∃ r6:Bool,q39_.C a1 a3 x1.Rhs r6 /\
 (if r6=true then
 q65_.L3 x0 x1 z0 z1 φ
 else
 φ false)
 else
 q65_.L3 x0 x1 z0 z1 φ)
 else
 q65_.L1 x0 x1 ((IntKind.wrap .i64 (z0+1))) φ)):L2 x0 x1 z0 z1 φ:=
 mIn <|
 mAsk 4 h dT dF (fun h=>
 mIx 7 Aa2 h fun a1 h2 h=>
 mIx 4 Aa2 h fun a3 h4 h=>
 Ac2 3 h (fun _ h=>h) (fun _ h=>
 mIxf 4 Aa2 h2 <|
 mIxf 4 Aa2 h4 <|
 Ac2 3 h (fun _ h=>h) (fun _ h=>
 mFin 5 h) fun _ h=>
 mRet 7 h) fun _ h=>
 mFin 19 h) fun h=>
 mFin 8 h
theorem L3_step (x0:api_Table) (x1:api_FD) (z0 z1:Int) (φ:Bool->Prop) (h :
 q65_.L2 x0 x1 z0 ((IntKind.wrap .i64 (z1+1))) φ):L3 x0 x1 z0 z1 φ:=
 mIn <|
 mFin 5 h
theorem enter (x0:api_Table) (x1:api_FD) (φ:Bool->Prop) (h :
 q65_.L1 x0 x1 0 φ):∃ r,φ r/\C x0 x1 r:=
 mEnt (fd:=Tryd.f30) (body:=B) (V:=W) (res:=res) <|
 mFin 8 h
end q65_
namespace q66_
noncomputable def B:Code:=(Tryd.f67.body).getD .skip
def W:List Nat:=[0,2,4,5,8,11,14,17,20,23,26,29,32,35]
def res (r:api_Value):D×List D:=(.agg [.lit (.int .i64 r.Kind),.lit (.int .i64 r.Num),.lit (.string r.Str)],[])
def C (x0:Int) (r:api_Value):Prop:=Ret env 67 [.lit (.int .u8 x0)] (res r).1 (res r).2
theorem enter (x0:Int) (φ:api_Value->Prop) (h :
 (if (Int.tmod x0 12)=0 then
 φ ((⟨1,0,(⟨#[]⟩:ByteArray)⟩:api_Value))
 else
 (if (Int.tmod x0 12)=1 then
 φ ((⟨1,1,(⟨#[]⟩:ByteArray)⟩:api_Value))
 else
 (if (Int.tmod x0 12)=2 then
 φ ((⟨1,2,(⟨#[]⟩:ByteArray)⟩:api_Value))
 else
 (if (Int.tmod x0 12)=3 then
 φ ((⟨0,0,(⟨#[]⟩:ByteArray)⟩:api_Value))
 else
 (if (Int.tmod x0 12)=4 then
 φ ((⟨2,0,(⟨#[97]⟩:ByteArray)⟩:api_Value))
 else
 (if (Int.tmod x0 12)=5 then
 φ ((⟨2,0,(⟨#[98]⟩:ByteArray)⟩:api_Value))
 else
 (if (Int.tmod x0 12)=6 then
 φ ((⟨2,0,(⟨#[]⟩:ByteArray)⟩:api_Value))
 else
 (if (Int.tmod x0 12)=7 then
 φ ((⟨3,1,(⟨#[]⟩:ByteArray)⟩:api_Value))
 else
 (if (Int.tmod x0 12)=8 then
 φ ((⟨1,(-1),(⟨#[]⟩:ByteArray)⟩:api_Value))
 else
 (if (Int.tmod x0 12)=9 then
 φ ((⟨2,0,(⟨#[97,98]⟩:ByteArray)⟩:api_Value))
 else
 (if (Int.tmod x0 12)=10 then
 φ ((⟨3,2,(⟨#[]⟩:ByteArray)⟩:api_Value))
 else
 φ ((⟨1,7,(⟨#[]⟩:ByteArray)⟩:api_Value)))))))))))))):∃ r,φ r/\C x0 r:=
 mEnt (fd:=Tryd.f67) (body:=B) (V:=W) (res:=res) <|
 mCon 11 h Aaz Aay (fun h=>
 mRet 4 h) fun h=>
 mCon 4 h Aaz Aay (fun h=>
 mRet 4 h) fun h=>
 mCon 4 h Aaz Aay (fun h=>
 mRet 4 h) fun h=>
 mCon 4 h Aaz Aay (fun h=>
 mRet 4 h) fun h=>
 mCon 4 h Aaz Aay (fun h=>
 mRet 4 h) fun h=>
 mCon 4 h Aaz Aay (fun h=>
 mRet 4 h) fun h=>
 mCon 4 h Aaz Aay (fun h=>
 mRet 4 h) fun h=>
 mCon 4 h Aaz Aay (fun h=>
 mRet 4 h) fun h=>
 mCon 4 h Aaz Aay (fun h=>
 mRet 4 h) fun h=>
 mCon 4 h Aaz Aay (fun h=>
 mRet 4 h) fun h=>
 mCon 4 h Aaz Aay (fun h=>
 mRet 4 h) fun h=>
 mRet 5 h
end q66_
namespace q57_
noncomputable def B:Code:=(Tryd.f48.body).getD .skip
def W:List Nat:=[0,1,2,4,5,6,7,8,9,20,34,44]
def res (r:api_Table):D×List D:=(.agg [.lit (.string r.Name),.own (r.Attrs.map eS),.own (r.Rows.map Ac1)],[])
def C (x0:drossref03_Recipe) (x1:Int) (r:api_Table):Prop:=Ret env 48 [.agg [.lit (.int .u8 x0.Attrs),.lit (.int .u8 x0.Gap),.sl (x0.Rows.map (eSl (eI .u8)))],.lit (.int .i64 x1)] (res r).1 (res r).2
def L1 (x0:drossref03_Recipe) (x1:Int) (z0:List api_Row) (z1:Int) (φ:api_Table->Prop):Prop:=Pt env 48 W B [1,1,0,1,0] [(0,.agg [.lit (.int .u8 x0.Attrs),.lit (.int .u8 x0.Gap),.sl (x0.Rows.map (eSl (eI .u8)))]),(1,.lit (.int .i64 x1)),(2,.box [.lit (.int .u8 x0.Attrs),.lit (.int .u8 x0.Gap),.sl (x0.Rows.map (eSl (eI .u8)))]),(4,.box [.lit (.string ((⟨#[]⟩:ByteArray))),.own [],.own []]),(5,.box [.lit (.string ((⟨#[114]⟩:ByteArray))),.own (((List.take (x1.toNat-0) (List.drop 0 [(⟨#[97]⟩:ByteArray),(⟨#[98]⟩:ByteArray),(⟨#[99]⟩:ByteArray),(⟨#[100]⟩:ByteArray),(⟨#[101]⟩:ByteArray),(⟨#[102]⟩:ByteArray),(⟨#[103]⟩:ByteArray),(⟨#[104]⟩:ByteArray)]))).map eS),.own (z0.map Ac1)]),(6,.lit (.int .i64 z1))] (Lv env 48 Tryd.f48 2 res φ)
def L2 (x0:drossref03_Recipe) (x1:Int) (z0:List api_Row) (z1 z2:Int) (z3:List api_Value) (z4:Int) (φ:api_Table->Prop):Prop:=Pt env 48 W B [1,1,0,1,0,0,1,0,0,1,0,1,0] [(0,.agg [.lit (.int .u8 x0.Attrs),.lit (.int .u8 x0.Gap),.sl (x0.Rows.map (eSl (eI .u8)))]),(1,.lit (.int .i64 x1)),(2,.box [.lit (.int .u8 x0.Attrs),.lit (.int .u8 x0.Gap),.sl (x0.Rows.map (eSl (eI .u8)))]),(4,.box [.lit (.string ((⟨#[]⟩:ByteArray))),.own [],.own []]),(5,.box [.lit (.string ((⟨#[114]⟩:ByteArray))),.own (((List.take (x1.toNat-0) (List.drop 0 [(⟨#[97]⟩:ByteArray),(⟨#[98]⟩:ByteArray),(⟨#[99]⟩:ByteArray),(⟨#[100]⟩:ByteArray),(⟨#[101]⟩:ByteArray),(⟨#[102]⟩:ByteArray),(⟨#[103]⟩:ByteArray),(⟨#[104]⟩:ByteArray)]))).map eS),.own (z0.map Ac1)]),(6,.lit (.int .i64 z1)),(7,.box [.lit (.int .i64 z2),.own (z3.map Aa1)]),(8,.lit (.int .i64 z4))] (Lv env 48 Tryd.f48 2 res φ)
def L3 (x0:drossref03_Recipe) (x1:Int) (z0:List api_Row) (z1 z2:Int) (z3:List api_Value) (z4 a7:Int) (φ:api_Table->Prop):Prop:=Pt env 48 W B [1,1,0,1,0,0,1,0,0,1,0,1,0,0,1,0,0,1,1] [(0,.agg [.lit (.int .u8 x0.Attrs),.lit (.int .u8 x0.Gap),.sl (x0.Rows.map (eSl (eI .u8)))]),(1,.lit (.int .i64 x1)),(2,.box [.lit (.int .u8 x0.Attrs),.lit (.int .u8 x0.Gap),.sl (x0.Rows.map (eSl (eI .u8)))]),(4,.box [.lit (.string ((⟨#[]⟩:ByteArray))),.own [],.own []]),(5,.box [.lit (.string ((⟨#[114]⟩:ByteArray))),.own (((List.take (x1.toNat-0) (List.drop 0 [(⟨#[97]⟩:ByteArray),(⟨#[98]⟩:ByteArray),(⟨#[99]⟩:ByteArray),(⟨#[100]⟩:ByteArray),(⟨#[101]⟩:ByteArray),(⟨#[102]⟩:ByteArray),(⟨#[103]⟩:ByteArray),(⟨#[104]⟩:ByteArray)]))).map eS),.own (z0.map Ac1)]),(6,.lit (.int .i64 z1)),(7,.box [.lit (.int .i64 z2),.own (z3.map Aa1)]),(8,.lit (.int .i64 z4)),(9,.lit (.int .u8 a7))] (Lv env 48 Tryd.f48 2 res φ)
theorem L1_step (x0:drossref03_Recipe) (x1:Int) (z0:List api_Row) (z1:Int) (φ:api_Table->Prop) (h :
 (if z1<(x0.Rows.length:Int) then
 q57_.L2 x0 x1 z0 z1 ((IntKind.wrap .i64 (1+(IntKind.wrap .i64 (z1*(IntKind.wrap .i64 (1+(IntKind.wrap .i64 (Int.tmod x0.Gap 3))))))))) ([]) 0 φ
 else
 φ ((⟨(⟨#[114]⟩:ByteArray),(List.take (x1.toNat-0) (List.drop 0 [(⟨#[97]⟩:ByteArray),(⟨#[98]⟩:ByteArray),(⟨#[99]⟩:ByteArray),(⟨#[100]⟩:ByteArray),(⟨#[101]⟩:ByteArray),(⟨#[102]⟩:ByteArray),(⟨#[103]⟩:ByteArray),(⟨#[104]⟩:ByteArray)])),z0⟩:api_Table)))):L1 x0 x1 z0 z1 φ:=
 mIn <|
 mLen 5 (eSl (eI .u8)) x0.Rows <|
 mAsk 0 h dT dF (fun h=>
 mFin 19 h) fun h=>
 mRet 7 h
theorem L2_step (x0:drossref03_Recipe) (x1:Int) (z0:List api_Row) (z1 z2:Int) (z3:List api_Value) (z4:Int) (φ:api_Table->Prop) (h :
 (if z4<x1 then
 ∃ a5,lget x0.Rows z1=some a5 /\
 (if z4<(a5.length:Int) then
 ∃ a7,lget a5 z4=some a7 /\
 q57_.L3 x0 x1 z0 z1 z2 z3 z4 a7 φ
 else
 q57_.L3 x0 x1 z0 z1 z2 z3 z4 0 φ)
 else
 (z0.length+1)*32<=140737488355328 /\
 q57_.L1 x0 x1 ((z0++[(⟨z2,z3⟩:api_Row)])) ((IntKind.wrap .i64 (z1+1))) φ)):L2 x0 x1 z0 z1 z2 z3 z4 φ:=
 mIn <|
 mAsk 4 h dT dF (fun h=>
 mIx 11 (eSl (eI .u8)) h fun a5 h6 h=>
 mLen 1 (eI .u8) a5 <|
 mAsk 0 h dT dF (fun h=>
 mIxf 6 (eSl (eI .u8)) h6 <|
 mIx 2 (eI .u8) h fun a7 h8 h=>
 mFin 3 h) fun h=>
 mFin 3 h) fun h=>
 mApp 8 Ac1 z0 ([(⟨z2,z3⟩:api_Row)]) h fun h=>
 mFin 8 h
theorem L3_step (x0:drossref03_Recipe) (x1:Int) (z0:List api_Row) (z1 z2:Int) (z3:List api_Value) (z4 a7:Int) (φ:api_Table->Prop) (h :
 ∃ r10:api_Value,q66_.C a7 r10 /\
 (z3.length+1)*32<=140737488355328 /\
 q57_.L2 x0 x1 z0 z1 z2 ((z3++[r10])) ((IntKind.wrap .i64 (z4+1))) φ):L3 x0 x1 z0 z1 z2 z3 z4 a7 φ:=
 mIn <|
 mLo 4 h (fun _ h=>h) (hf:=(fun _=>Aq2 (Apy (Aaq rfl (Aaq rfl (Aaq rfl Abr)))))) fun r10 _ h=>
 mApp 1 Aa1 z3 ([r10]) h fun h=>
 mFin 8 h
theorem enter (x0:drossref03_Recipe) (x1:Int) (φ:api_Table->Prop) (h :
 0<=x1 /\
 (0<=x1.toNat/\x1.toNat<=([(⟨#[97]⟩:ByteArray),(⟨#[98]⟩:ByteArray),(⟨#[99]⟩:ByteArray),(⟨#[100]⟩:ByteArray),(⟨#[101]⟩:ByteArray),(⟨#[102]⟩:ByteArray),(⟨#[103]⟩:ByteArray),(⟨#[104]⟩:ByteArray)]).length) /\
 0+(x1.toNat-0)<=([(⟨#[97]⟩:ByteArray),(⟨#[98]⟩:ByteArray),(⟨#[99]⟩:ByteArray),(⟨#[100]⟩:ByteArray),(⟨#[101]⟩:ByteArray),(⟨#[102]⟩:ByteArray),(⟨#[103]⟩:ByteArray),(⟨#[104]⟩:ByteArray)]).length /\
 (0+((List.take (x1.toNat-0) (List.drop 0 [(⟨#[97]⟩:ByteArray),(⟨#[98]⟩:ByteArray),(⟨#[99]⟩:ByteArray),(⟨#[100]⟩:ByteArray),(⟨#[101]⟩:ByteArray),(⟨#[102]⟩:ByteArray),(⟨#[103]⟩:ByteArray),(⟨#[104]⟩:ByteArray)]))).length)*16<=140737488355328 /\
 q57_.L1 x0 x1 ([]) 0 φ):∃ r,φ r/\C x0 x1 r:=
 mEnt (fd:=Tryd.f48) (body:=B) (V:=W) (res:=res) <|
 h.elim fun h1 h=>
 h.elim fun h2 h=>
 mVl 8 (Aju (s:=11) (ps:=[]) (t:=62) (x:=(.tmp 11)) (lo:=none) (hi:=(some (.tmp 12))) (lo':=none) (hi':=some (x1).toNat) (e:=eS) (l:=[(⟨#[97]⟩:ByteArray),(⟨#[98]⟩:ByteArray),(⟨#[99]⟩:ByteArray),(⟨#[100]⟩:ByteArray),(⟨#[101]⟩:ByteArray),(⟨#[102]⟩:ByteArray),(⟨#[103]⟩:ByteArray),(⟨#[104]⟩:ByteArray)]) (et:=9) (k:=1) (by kernel_rfl) (by kernel_rfl) (Afs (by kernel_rfl)) Aez (Af0 (i:=x1) (q:=.i64) (by kernel_rfl) h1) (by kernel_rfl) (by kernel_rfl) (fun _=>rfl) (by kernel_rfl) h2.1 h2.2) <|
 h.elim fun h3 h=>
 h.elim fun h4 h=>
 mOp 0 (app3 (x:=(.tmp 10)) (y:=(.tmp 13)) (t:=62) (u:=62) (et:=9) (z:=.lit (.string ((⟨#[]⟩:ByteArray)))) (k:=1) (c:=16) (e:=eS) (l:=[]) (m:=(List.take (x1.toNat-0) (List.drop 0 [(⟨#[97]⟩:ByteArray),(⟨#[98]⟩:ByteArray),(⟨#[99]⟩:ByteArray),(⟨#[100]⟩:ByteArray),(⟨#[101]⟩:ByteArray),(⟨#[102]⟩:ByteArray),(⟨#[103]⟩:ByteArray),(⟨#[104]⟩:ByteArray)]))) (by kernel_rfl) (by kernel_rfl) (by kernel_rfl) (by kernel_rfl) (by kernel_rfl) (by kernel_rfl) (Awh (s:=11) (ps:=[]) (off:=0) (len:=(x1.toNat-0)) (by kernel_rfl) (Amr (s:=11) (ps:=[]) (l:=[(⟨#[97]⟩:ByteArray),(⟨#[98]⟩:ByteArray),(⟨#[99]⟩:ByteArray),(⟨#[100]⟩:ByteArray),(⟨#[101]⟩:ByteArray),(⟨#[102]⟩:ByteArray),(⟨#[103]⟩:ByteArray),(⟨#[104]⟩:ByteArray)]) (e:=eS) (by kernel_rfl) h3) (fun _=>rfl)) (by kernel_rfl) (by kernel_rfl) (by kernel_rfl) (by kernel_rfl) (fun _=>rfl) h4) <|
 mFin 7 h
end q57_
namespace q43_
noncomputable def B:Code:=(Tryd.f29.body).getD .skip
def W:List Nat:=[0,1,2,4,5,10]
def res (r:api_Table×Bool):D×List D:=(.tup [.agg [.lit (.string r.1.Name),.own (r.1.Attrs.map eS),.own (r.1.Rows.map Ac1)],.lit (.bool r.2)],[])
def C (x0:drossref03_Recipe) (x1:Int) (r:api_Table×Bool):Prop:=Ret env 29 [.agg [.lit (.int .u8 x0.Attrs),.lit (.int .u8 x0.Gap),.sl (x0.Rows.map (eSl (eI .u8)))],.lit (.int .i64 x1)] (res r).1 (res r).2
theorem enter (x0:drossref03_Recipe) (x1:Int) (φ:api_Table×Bool->Prop) (h :
 (if x1<(x0.Rows.length:Int) then
 φ (((⟨(⟨#[]⟩:ByteArray),[],[]⟩:api_Table),false))
 else
 ∃ r1:api_Table,q57_.C x0 ((IntKind.wrap .i64 (Int.tmod x0.Attrs 6))) r1 /\
 φ ((r1,true)))):∃ r,φ r/\C x0 x1 r:=
 mEnt (fd:=Tryd.f29) (body:=B) (V:=W) (res:=res) <|
 mLen 8 (eSl (eI .u8)) x0.Rows <|
 mAsk 1 h dT dF (fun h=>
 mRet 7 h) fun h=>
 mCal 9 h (fun _ h=>h) (hf:=(fun _=>Ab0 (Apy (Aaq rfl (Aaq (Ab3 (e:=eS) (fun _=>rfl)) (Aaq (Ab3 (e:=Ac1) (fun _=>(Aaq rfl (Aaq (Ab3 (e:=Aa1) (fun _=>rfl)) Abr)))) Abr)))) rfl)) fun r1 _ h=>
 mRet 3 h
end q43_
namespace q44_
def res (r:Bool):D×List D:=(.lit (.bool r),[])
def C  (r:Bool):Prop:=Ret env 10 [] (res r).1 (res r).2
end q44_
end Go.Own
namespace Go.Own
set_option maxRecDepth 1000000
theorem q44_.run:Ab6 env 400 10 []=some (.lit (.bool true),[]):=by kernel_rfl
theorem q44_.spec:q44_.C true:=Ret.of q44_.run
end Go.Own
namespace Go.Own
open Go.Proofs D
set_option maxRecDepth 100000
set_option maxHeartbeats 4000000
namespace drosslaw13_BasisSound
noncomputable def B:Code:=(Tryd.f8.body).getD .skip
def W:List Nat:=[0,1,2,3,4,5,6,7,8,9,10,12,13,15,16,17,18,19,20,21,22,23,24,51,57,58,59,60,65,74,75,76,77,90]
def res (r:Bool):D×List D:=(.lit (.bool r),[])
def C (x0:drossref03_Recipe) (x1:drossref13_Mixed) (x2:drossref09_Dep) (r:Bool):Prop:=Ret env 8 [.agg [.lit (.int .u8 x0.Attrs),.lit (.int .u8 x0.Gap),.sl (x0.Rows.map (eSl (eI .u8)))],.agg [.lit (.int .u8 x1.D.N),.sl (x1.D.L.map Aa5),.sl (x1.M.map Aa5)],.agg [.lit (.int .u8 x2.L),.lit (.int .u8 x2.R)]] (res r).1 (res r).2
def L1  (φ:Bool->Prop):Prop:=Pt env 8 W B [1,1,1,0,1,0,0] [] (Lv env 8 Tryd.f8 3 res φ)
def L2 (x1:drossref13_Mixed) (x2:drossref09_Dep) (r4:api_Table×Bool) (z0 r6:List api_FD) (z1:Int) (φ:Bool->Prop):Prop:=Pt env 8 W B [1,1,1,1,1,0,1,0] [(1,.agg [.lit (.int .u8 x1.D.N),.sl (x1.D.L.map Aa5),.sl (x1.M.map Aa5)]),(2,.agg [.lit (.int .u8 x2.L),.lit (.int .u8 x2.R)]),(4,.box [.lit (.int .u8 x1.D.N),.sl (x1.D.L.map Aa5),.sl (x1.M.map Aa5)]),(5,.box [.lit (.int .u8 x2.L),.lit (.int .u8 x2.R)]),(7,.box [.lit (.string r4.1.Name),.sl (r4.1.Attrs.map eS),.sl (r4.1.Rows.map Aa2)]),(9,.lit (.int .i64 ((r4.1.Attrs.length:Int)))),(10,.own (z0.map Aa4)),(57,.own (r6.map Aa4)),(58,.lit (.int .i64 ((r6.length:Int)))),(59,.lit (.int .i64 z1))] (Lv env 8 Tryd.f8 3 res φ)
def L3 (x1:drossref13_Mixed) (x2:drossref09_Dep) (r4:api_Table×Bool) (z0 r6:List api_FD) (z1:Int) (φ:Bool->Prop):Prop:=Pt env 8 W B [1,1,1,1,1,0,1,0,0,1,1,1] [(1,.agg [.lit (.int .u8 x1.D.N),.sl (x1.D.L.map Aa5),.sl (x1.M.map Aa5)]),(2,.agg [.lit (.int .u8 x2.L),.lit (.int .u8 x2.R)]),(4,.box [.lit (.int .u8 x1.D.N),.sl (x1.D.L.map Aa5),.sl (x1.M.map Aa5)]),(5,.box [.lit (.int .u8 x2.L),.lit (.int .u8 x2.R)]),(7,.box [.lit (.string r4.1.Name),.sl (r4.1.Attrs.map eS),.sl (r4.1.Rows.map Aa2)]),(9,.lit (.int .i64 ((r4.1.Attrs.length:Int)))),(10,.own (z0.map Aa4)),(57,.own (r6.map Aa4)),(58,.lit (.int .i64 ((r6.length:Int)))),(59,.lit (.int .i64 z1))] (Lv env 8 Tryd.f8 3 res φ)
def L4 (x2:drossref09_Dep) (r4:api_Table×Bool) (z0:List api_FD) (z1 r44:List api_MVD) (z2:Int) (φ:Bool->Prop):Prop:=Pt env 8 W B [1,1,1,1,1,1,1,0,1,0] [(2,.agg [.lit (.int .u8 x2.L),.lit (.int .u8 x2.R)]),(5,.box [.lit (.int .u8 x2.L),.lit (.int .u8 x2.R)]),(7,.box [.lit (.string r4.1.Name),.sl (r4.1.Attrs.map eS),.sl (r4.1.Rows.map Aa2)]),(9,.lit (.int .i64 ((r4.1.Attrs.length:Int)))),(10,.own (z0.map Aa4)),(13,.own (z1.map Aa3)),(74,.own (r44.map Aa3)),(75,.lit (.int .i64 ((r44.length:Int)))),(76,.lit (.int .i64 z2))] (Lv env 8 Tryd.f8 3 res φ)
def L5 (x2:drossref09_Dep) (r4:api_Table×Bool) (z0:List api_FD) (z1 r44:List api_MVD) (z2:Int) (φ:Bool->Prop):Prop:=Pt env 8 W B [1,1,1,1,1,1,1,0,1,0,0,1,1,1] [(2,.agg [.lit (.int .u8 x2.L),.lit (.int .u8 x2.R)]),(5,.box [.lit (.int .u8 x2.L),.lit (.int .u8 x2.R)]),(7,.box [.lit (.string r4.1.Name),.sl (r4.1.Attrs.map eS),.sl (r4.1.Rows.map Aa2)]),(9,.lit (.int .i64 ((r4.1.Attrs.length:Int)))),(10,.own (z0.map Aa4)),(13,.own (z1.map Aa3)),(74,.own (r44.map Aa3)),(75,.lit (.int .i64 ((r44.length:Int)))),(76,.lit (.int .i64 z2))] (Lv env 8 Tryd.f8 3 res φ)
theorem L1_step  (φ:Bool->Prop) (h :
 ∃ r91:Bool,q44_.C  r91 /\
 φ r91):L1  φ:=
 mIn <|
 mCal 1 h (fun _ h=>h) fun r91 _ h=>
 mRet 2 h
theorem L2_step (x1:drossref13_Mixed) (x2:drossref09_Dep) (r4:api_Table×Bool) (z0 r6:List api_FD) (z1:Int) (φ:Bool->Prop) (h :
 (if z1<(r6.length:Int) then
 ∃ a92,lget r6 z1=some a92 /\
 ∃ r94:Bool,q65_.C r4.1 a92 r94 /\
 (if r94=true then
 (z0.length+1)*8<=140737488355328 /\
 drosslaw13_BasisSound.L3 x1 x2 r4 ((z0++[a92])) r6 z1 φ
 else
 drosslaw13_BasisSound.L3 x1 x2 r4 z0 r6 z1 φ)
 else
 ∃ r96:List api_MVD,q55_.C ((r4.1.Attrs.length:Int)) x1.M r96 /\
 drosslaw13_BasisSound.L4 x2 r4 z0 ([]) r96 0 φ)):L2 x1 x2 r4 z0 r6 z1 φ:=
 mIn <|
 mAsk 2 h dT dF (fun h=>
 mIy 4 Aa4 h fun a92 h93 h=>
 mLd 0 Aa4 h93 <|
 Ac2 6 h (fun _ h=>h) (fun _ h=>
 mApp 6 Aa4 z0 ([a92]) h fun h=>
 mFin 2 h) fun _ h=>
 mFin 3 h) fun h=>
 mCal 10 h (fun _ h=>h) (hf:=(fun _=>Ab0 (Ab3 (e:=Aa3) (fun _=>rfl)) rfl)) fun r96 _ h=>
 mLen 0 Aa3 r96 <|
 mFin 2 h
theorem L3_step (x1:drossref13_Mixed) (x2:drossref09_Dep) (r4:api_Table×Bool) (z0 r6:List api_FD) (z1:Int) (φ:Bool->Prop) (h :
 drosslaw13_BasisSound.L2 x1 x2 r4 z0 r6 ((IntKind.wrap .i64 (z1+1))) φ):L3 x1 x2 r4 z0 r6 z1 φ:=
 mIn <|
 mFin 4 h
theorem L4_step (x2:drossref09_Dep) (r4:api_Table×Bool) (z0:List api_FD) (z1 r44:List api_MVD) (z2:Int) (φ:Bool->Prop) (h :
 (if z2<(r44.length:Int) then
 ∃ a97,lget r44 z2=some a97 /\
 ∃ r99:Bool×Int,q74_.C r4.1 a97 r99 /\
 (if r99.2=0 then
 (if r99.1=true then
 (z1.length+1)*8<=140737488355328 /\
 drosslaw13_BasisSound.L5 x2 r4 z0 ((z1++[a97])) r44 z2 φ
 else
 drosslaw13_BasisSound.L5 x2 r4 z0 z1 r44 z2 φ)
 else
 drosslaw13_BasisSound.L5 x2 r4 z0 z1 r44 z2 φ)
 else
 ∃ r101:List api_MVD,q55_.C ((r4.1.Attrs.length:Int)) ([x2]) r101 /\
 ∃ a102,lget r101 0=some a102 /\
 ∃ r104:Bool×Int,q56_.C ((r4.1.Attrs.length:Int)) z0 z1 ((⟨a102.Lhs,a102.Rhs⟩:api_FD)) r104 /\
 ∃ r105:Bool×Int,q42_.C ((r4.1.Attrs.length:Int)) z0 z1 a102 r105 /\
 ∃ r106:Bool×Int,q41_.C r4.1 a102 r106 /\
 (if r104.2=0 then
 (if r105.2=0 then
 (if r106.2=0 then
 (if r104.1=true then
 ∃ r107:Bool,q65_.C r4.1 ((⟨a102.Lhs,a102.Rhs⟩:api_FD)) r107 /\
 (if r107=true then
 (if r105.1=true then
 φ r106.1
 else
 φ true)
 else
 φ false)
 else
 (if r105.1=true then
 φ r106.1
 else
 φ true))
 else
 φ false)
 else
 φ false)
 else
 φ false))):L4 x2 r4 z0 z1 r44 z2 φ:=
 mIn <|
 mAsk 2 h dT dF (fun h=>
 mIy 4 Aa3 h fun a97 h98 h=>
 mLd 0 Aa3 h98 <|
 mCal 6 h (fun _ h=>h) (hf:=(fun _=>Ab0 (Ad3 (Aaq rfl (Aaq rfl Abr))) rfl)) fun r99 _ h=>
 mAsk 8 h Aaz Aay (fun h=>
 mAsk 1 h id fls (fun h=>
 mApp 7 Aa3 z1 ([a97]) h fun h=>
 mFin 2 h) fun h=>
 mFin 4 h) fun h=>
 mFin 6 h) fun h=>
 mCal 7 h (fun _ h=>h) (hr:=by exact (pr_k (Afz (Ag4 (s:=98) (ps:=[]) (l:=[x2]) (e:=Aa5) (e':=Aa5) (fun _=>rfl) (by kernel_rfl)) Anu))) (hf:=(fun _=>Ab0 (Ab3 (e:=Aa3) (fun _=>rfl)) rfl)) fun r101 _ h=>
 mIy 0 Aa3 h fun a102 h103 h=>
 mVl 0 (Aky (t:=43) (x:=(.tmp 100)) (s:=99) (ps:=[]) (n:=((0:Int).toNat)) (c:=0) (e:=Aa3) (l:=r101) (a:=a102) (d:=.agg [.lit (.int .u32 a102.Lhs),.lit (.int .u32 a102.Rhs)]) (by kernel_rfl) (by kernel_rfl) (by kernel_rfl) (by kernel_rfl) (Adq h103).2 (by kernel_rfl)) <|
 mCal 8 h (fun _ h=>h) (hr:=by exact (pr_k (Afz (Ag4 (s:=10) (ps:=[]) (l:=z0) (e:=Aa4) (e':=Aa4) (fun _=>rfl) (by kernel_rfl)) (Afz (Ag4 (s:=13) (ps:=[]) (l:=z1) (e:=Aa3) (e':=Aa3) (fun _=>rfl) (by kernel_rfl)) (pr_k Anu))))) (hf:=(fun _=>Ab0 (Ad3 (Aaq rfl (Aaq rfl Abr))) rfl)) fun r104 _ h=>
 mCal 11 h (fun _ h=>h) (hr:=by exact (pr_k (Afz (Ag4 (s:=10) (ps:=[]) (l:=z0) (e:=Aa4) (e':=Aa4) (fun _=>rfl) (by kernel_rfl)) (Afz (Ag4 (s:=13) (ps:=[]) (l:=z1) (e:=Aa3) (e':=Aa3) (fun _=>rfl) (by kernel_rfl)) (pr_k Anu))))) (hf:=(fun _=>Ab0 (Ad3 (Aaq rfl (Aaq rfl Abr))) rfl)) fun r105 _ h=>
 mCal 9 h (fun _ h=>h) (hf:=(fun _=>Ab0 (Ad3 (Aaq rfl (Aaq rfl Abr))) rfl)) fun r106 _ h=>
 mAsk 8 h Aaz Aay (fun h=>
 mAsk 2 h Aaz Aay (fun h=>
 mAsk 3 h Aaz Aay (fun h=>
 mAsk 2 h id fls (fun h=>
 Ac2 4 h (fun _ h=>h) (fun _ h=>
 mAsk 3 h id fls (fun h=>
 mRet 7 h) fun h=>
 mRet 7 h) fun _ h=>
 mRet 11 h) fun h=>
 mAsk 8 h id fls (fun h=>
 mRet 7 h) fun h=>
 mRet 7 h) fun h=>
 mRet 19 h) fun h=>
 mRet 23 h) fun h=>
 mRet 26 h
theorem L5_step (x2:drossref09_Dep) (r4:api_Table×Bool) (z0:List api_FD) (z1 r44:List api_MVD) (z2:Int) (φ:Bool->Prop) (h :
 drosslaw13_BasisSound.L4 x2 r4 z0 z1 r44 ((IntKind.wrap .i64 (z2+1))) φ):L5 x2 r4 z0 z1 r44 z2 φ:=
 mIn <|
 mFin 4 h
theorem enter (x0:drossref03_Recipe) (x1:drossref13_Mixed) (x2:drossref09_Dep) (φ:Bool->Prop) (h :
 ∃ r88:api_Table×Bool,q43_.C x0 8 r88 /\
 ∃ r89:Bool,q44_.C  r89 /\
 (if r89=true then
 (if r88.2=true then
 (if 6<(x1.D.L.length:Int) then
 drosslaw13_BasisSound.L1  φ
 else
 (if 4<(x1.M.length:Int) then
 drosslaw13_BasisSound.L1  φ
 else
 ∃ r90:List api_FD,q54_.C ((r88.1.Attrs.length:Int)) x1.D.L r90 /\
 drosslaw13_BasisSound.L2 x1 x2 r88 ([]) r90 0 φ))
 else
 drosslaw13_BasisSound.L1  φ)
 else
 drosslaw13_BasisSound.L1  φ)):∃ r,φ r/\C x0 x1 x2 r:=
 mEnt (fd:=Tryd.f8) (body:=B) (V:=W) (res:=res) <|
 Azg 8 h (fun _ h=>h) (fun (r88:api_Table×Bool)=>Bcr rfl (Agl (Az6 (Agl rfl (Agl (Aff (e:=eS) (e':=eS) (fun _=>rfl) r88.1.Attrs) (Agl (Aff (e:=Ac1) (e':=Aa2) (fun x=>(Agl rfl (Agl (Aff (e:=Aa1) (e':=Aa1) (fun _=>rfl) x.Values) Asn))) r88.1.Rows) Asn)))) (Agl rfl Asn))) (hf:=(fun _=>Ab0 (Ad3 (Aaq (Apy (Aaq rfl (Aaq (Ab3 (e:=eS) (fun _=>rfl)) (Aaq (Ab3 (e:=Ac1) (fun _=>(Aaq rfl (Aaq (Ab3 (e:=Aa1) (fun _=>rfl)) Abr)))) Abr)))) (Aaq rfl Abr))) rfl)) fun r88 _ h=>
 mLen 10 eS r88.1.Attrs <|
 Ac2 3 h (fun _ h=>h) (fun _ h=>
 mAsk 2 h id fls (fun h=>
 mLen 6 Aa5 x1.D.L <|
 mAsk 0 h dT dF (fun h=>
 mFin 9 h) fun h=>
 mLen 4 Aa5 x1.M <|
 mAsk 0 h dT dF (fun h=>
 mFin 3 h) fun h=>
 mCal 12 h (fun _ h=>h) (hf:=(fun _=>Ab0 (Ab3 (e:=Aa4) (fun _=>rfl)) rfl)) fun r90 _ h=>
 mLen 0 Aa4 r90 <|
 mFin 2 h) fun h=>
 mFin 17 h) fun _ h=>
 mFin 20 h
end drosslaw13_BasisSound
end Go.Own
