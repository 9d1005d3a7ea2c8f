/- What the functions answer. No conditions. -/
import Derived.Test.YtmiedlcblpiemaaDoorBase2
import Derived.Test.YtmiedlcblpiemaaDoorOwn26
set_option linter.all false
namespace Go.Own
open Go.Proofs D
set_option maxRecDepth 100000
set_option maxHeartbeats 4000000
namespace q18_
noncomputable def B:Code:=(Tryd.f76.body).getD .skip
def W:List Nat:=[0,1,4,5,7,8,9,16]
def res (r:Int):D×List D:=(.lit (.int .i64 r),[])
def C (x0:List ByteArray) (x1:ByteArray) (r:Int):Prop:=Ret env 76 [.sl (x0.map eS),.lit (.string x1)] (res r).1 (res r).2
def L1 (x0:List ByteArray) (x1:ByteArray) (z0:Int) (φ:Int->Prop):Prop:=Pt env 76 W B [1,0,1,0] [(0,.sl (x0.map eS)),(1,.lit (.string x1)),(7,.lit (.int .i64 ((x0.length:Int)))),(8,.lit (.int .i64 z0))] (Lv env 76 Tryd.f76 2 res φ)
theorem L1_step (x0:List ByteArray) (x1:ByteArray) (z0:Int) (φ:Int->Prop) (h :
 (if z0<(x0.length:Int) then
 ∃ a1,lget x0 z0=some a1 /\
 (if x1.toList=a1.toList then
 φ z0
 else
 q18_.L1 x0 x1 ((IntKind.wrap .i64 (z0+1))) φ)
 else
 φ ((-1)))):L1 x0 x1 z0 φ:=
 mIn <|
 mAsk 2 h dT dF (fun h=>
 mIx 11 eS h fun a1 h2 h=>
 mAsk 1 h Apj Api (fun h=>
 mRet 6 h) fun h=>
 mFin 7 h) fun h=>
 mRet 6 h
theorem enter (x0:List ByteArray) (x1:ByteArray) (φ:Int->Prop) (h :
 q18_.L1 x0 x1 0 φ):∃ r,φ r/\C x0 x1 r:=
 mEnt (fd:=Tryd.f76) (body:=B) (V:=W) (res:=res) <|
 mLen 5 eS x0 <|
 mFin 2 h
end q18_
namespace q17_
noncomputable def B:Code:=(Tryd.f59.body).getD .skip
def W:List Nat:=[0,1,4]
def res (r:Bool):D×List D:=(.lit (.bool r),[])
def C (x0:List ByteArray) (x1:ByteArray) (r:Bool):Prop:=Ret env 59 [.sl (x0.map eS),.lit (.string x1)] (res r).1 (res r).2
theorem enter (x0:List ByteArray) (x1:ByteArray) (φ:Bool->Prop) (h :
 ∃ r1:Int,q18_.C x0 x1 r1 /\
 φ ((decide (0<=r1)))):∃ r,φ r/\C x0 x1 r:=
 mEnt (fd:=Tryd.f59) (body:=B) (V:=W) (res:=res) <|
 mCal 6 h (fun _ h=>h) fun r1 _ h=>
 mRet 3 h
end q17_
namespace q55_
noncomputable def B:Code:=(Tryd.f58.body).getD .skip
def W:List Nat:=[0,2,3,4,5,16,18,19,20,56]
def res (r:Bool):D×List D:=(.lit (.bool r),[])
def C (x0:ByteArray) (r:Bool):Prop:=Ret env 58 [.lit (.string x0)] (res r).1 (res r).2
def L1 (x0:ByteArray) (z0:Int) (φ:Bool->Prop):Prop:=Pt env 58 W B [1,1,0,1,0] [(0,.lit (.string x0)),(18,.lit (.int .i64 ((Acf x0)))),(19,.lit (.int .i64 z0))] (Lv env 58 Tryd.f58 1 res φ)
def L2 (x0:ByteArray) (z0 z1:Int) (z2:Bool) (φ:Bool->Prop):Prop:=Pt env 58 W B [1,1,0,1,0,0,1,1,0,0,1,1,1,0] [(0,.lit (.string x0)),(3,.lit (.int .i64 z0)),(4,.lit (.int .u8 z1)),(5,.lit (.bool z2)),(18,.lit (.int .i64 ((Acf x0)))),(19,.lit (.int .i64 z0))] (Lv env 58 Tryd.f58 1 res φ)
def L3 (x0:ByteArray) (z0:Int) (φ:Bool->Prop):Prop:=Pt env 58 W B [1,1,0,1,0,0,1,1,1] [(0,.lit (.string x0)),(18,.lit (.int .i64 ((Acf x0)))),(19,.lit (.int .i64 z0))] (Lv env 58 Tryd.f58 1 res φ)
theorem L1_step (x0:ByteArray) (z0:Int) (φ:Bool->Prop) (h :
 (if z0<(Acf x0) then
 ∃ b1,((0:Int)<=z0/\x0[(z0).toNat]? = some b1) /\
 (if 97<=(u8i b1) then
 (if (u8i b1)<=122 then
 q55_.L2 x0 z0 ((u8i b1)) true φ
 else
 (if 65<=(u8i b1) then
 (if (u8i b1)<=90 then
 q55_.L2 x0 z0 ((u8i b1)) true φ
 else
 q55_.L2 x0 z0 ((u8i b1)) (((u8i b1) == 95)) φ)
 else
 q55_.L2 x0 z0 ((u8i b1)) (((u8i b1) == 95)) φ))
 else
 (if 65<=(u8i b1) then
 (if (u8i b1)<=90 then
 q55_.L2 x0 z0 ((u8i b1)) true φ
 else
 q55_.L2 x0 z0 ((u8i b1)) (((u8i b1) == 95)) φ)
 else
 q55_.L2 x0 z0 ((u8i b1)) (((u8i b1) == 95)) φ))
 else
 φ true)):L1 x0 z0 φ:=
 mIn <|
 mAsk 2 h dT dF (fun h=>
 mSt 10 h fun b1 h=>
 mAsk 4 h dT dF (fun h=>
 mAsk 2 h dT dF (fun h=>
 mFin 15 h) fun h=>
 mAsk 3 h dT dF (fun h=>
 mAsk 2 h dT dF (fun h=>
 mFin 8 h) fun h=>
 mFin 8 h) fun h=>
 mFin 11 h) fun h=>
 mAsk 6 h dT dF (fun h=>
 mAsk 2 h dT dF (fun h=>
 mFin 8 h) fun h=>
 mFin 8 h) fun h=>
 mFin 11 h) fun h=>
 mRet 6 h
theorem L2_step (x0:ByteArray) (z0 z1:Int) (z2:Bool) (φ:Bool->Prop) (h :
 (if z2=true then
 q55_.L3 x0 z0 φ
 else
 (if z0=0 then
 φ false
 else
 (if z1<48 then
 φ false
 else
 (if 57<z1 then
 φ false
 else
 q55_.L3 x0 z0 φ))))):L2 x0 z0 z1 z2 φ:=
 mIn <|
 mAsk 1 h id fls (fun h=>
 mFin 16 h) fun h=>
 mAsk 3 h Acd Acb (fun h=>
 mRet 14 h) fun h=>
 mAsk 2 h dT dF (fun h=>
 mRet 11 h) fun h=>
 mAsk 3 h dT dF (fun h=>
 mRet 7 h) fun h=>
 mFin 5 h
theorem L3_step (x0:ByteArray) (z0:Int) (φ:Bool->Prop) (h :
 q55_.L1 x0 ((IntKind.wrap .i64 (z0+1))) φ):L3 x0 z0 φ:=
 mIn <|
 mFin 4 h
theorem enter (x0:ByteArray) (φ:Bool->Prop) (h :
 (if x0.toList=((⟨#[]⟩:ByteArray)).toList then
 φ false
 else
 (if 24<(Acf x0) then
 φ false
 else
 (if x0.toList=((⟨#[110,117,108,108]⟩:ByteArray)).toList then
 φ false
 else
 q55_.L1 x0 0 φ)))):∃ r,φ r/\C x0 r:=
 mEnt (fd:=Tryd.f58) (body:=B) (V:=W) (res:=res) <|
 mAsk 5 h Apj Api (fun h=>
 mRet 14 h) fun h=>
 mAsk 3 h dT dF (fun h=>
 mRet 10 h) fun h=>
 mAsk 3 h Apj Api (fun h=>
 mRet 6 h) fun h=>
 mFin 9 h
end q55_
namespace q58_
noncomputable def B:Code:=(Tryd.f79.body).getD .skip
def W:List Nat:=[0,1,2,4,5,15,20,31]
def res (r:Bool):D×List D:=(.lit (.bool r),[])
def C (x0:api_Value) (r:Bool):Prop:=Ret env 79 [.agg [.lit (.int .i64 x0.Kind),.lit (.int .i64 x0.Num),.lit (.string x0.Str)]] (res r).1 (res r).2
theorem enter (x0:api_Value) (φ:Bool->Prop) (h :
 (if x0.Kind=0 then
 (if x0.Num=0 then
 φ ((x0.Str.toList == ((⟨#[]⟩:ByteArray)).toList))
 else
 φ false)
 else
 (if x0.Kind=1 then
 φ ((x0.Str.toList == ((⟨#[]⟩:ByteArray)).toList))
 else
 (if x0.Kind=2 then
 (if x0.Num=0 then
 φ ((decide ((Acf x0.Str)<=200)))
 else
 φ false)
 else
 (if x0.Kind=3 then
 (if 1<=x0.Num then
 φ ((x0.Str.toList == ((⟨#[]⟩:ByteArray)).toList))
 else
 φ false)
 else
 φ false))))):∃ r,φ r/\C x0 r:=
 mEnt (fd:=Tryd.f79) (body:=B) (V:=W) (res:=res) <|
 mCon 12 h Acd Acb (fun h=>
 mAsk 3 h Acd Acb (fun h=>
 mRet 7 h) fun h=>
 mRet 7 h) fun h=>
 mCon 4 h Acd Acb (fun h=>
 mRet 6 h) fun h=>
 mCon 4 h Acd Acb (fun h=>
 mAsk 3 h Acd Acb (fun h=>
 mRet 8 h) fun h=>
 mRet 8 h) fun h=>
 mCon 4 h Acd Acb (fun h=>
 mAsk 3 h dT dF (fun h=>
 mRet 7 h) fun h=>
 mRet 7 h) fun h=>
 mRet 4 h
end q58_
namespace q23_
noncomputable def B:Code:=(Tryd.f78.body).getD .skip
def W:List Nat:=[0,1,2]
def res (r:Bool):D×List D:=(.lit (.bool r),[])
def C (x0:api_Value) (r:Bool):Prop:=Ret env 78 [.agg [.lit (.int .i64 x0.Kind),.lit (.int .i64 x0.Num),.lit (.string x0.Str)]] (res r).1 (res r).2
theorem enter (x0:api_Value) (φ:Bool->Prop) (h :
 ∃ r1:Bool,q58_.C x0 r1 /\
 φ ((not r1))):∃ r,φ r/\C x0 r:=
 mEnt (fd:=Tryd.f78) (body:=B) (V:=W) (res:=res) <|
 mCal 6 h (fun _ h=>h) fun r1 _ h=>
 mRet 3 h
end q23_
namespace q2_
noncomputable def B:Code:=(Tryd.f92.body).getD .skip
def W:List Nat:=[0,1,4,5,7,8,9,16]
def res (r:Int):D×List D:=(.lit (.int .i64 r),[])
def C (x0:List api_Value) (r:Int):Prop:=Ret env 92 [.sl (x0.map Aa1),.fn 78 []] (res r).1 (res r).2
def L1 (x0:List api_Value) (z0:Int) (φ:Int->Prop):Prop:=Pt env 92 W B [1,0,1,0] [(0,.sl (x0.map Aa1)),(1,.fn 78 []),(7,.lit (.int .i64 ((x0.length:Int)))),(8,.lit (.int .i64 z0))] (Lv env 92 Tryd.f92 2 res φ)
theorem L1_step (x0:List api_Value) (z0:Int) (φ:Int->Prop) (h :
 (if z0<(x0.length:Int) then
 ∃ a1,lget x0 z0=some a1 /\
 ∃ r3:Bool,q23_.C a1 r3 /\
 (if r3=true then
 φ z0
 else
 q2_.L1 x0 ((IntKind.wrap .i64 (z0+1))) φ)
 else
 φ ((-1)))):L1 x0 z0 φ:=
 mIn <|
 mAsk 2 h dT dF (fun h=>
 mIx 11 Aa1 h fun a1 h2 h=>
 Acg 1 h (fun _ h=>h) (fun _ h=>
 mRet 6 h) fun _ h=>
 mFin 7 h) fun h=>
 mRet 6 h
theorem enter (x0:List api_Value) (φ:Int->Prop) (h :
 q2_.L1 x0 0 φ):∃ r,φ r/\C x0 r:=
 mEnt (fd:=Tryd.f92) (body:=B) (V:=W) (res:=res) <|
 mLen 5 Aa1 x0 <|
 mFin 2 h
end q2_
namespace q0_
noncomputable def B:Code:=(Tryd.f77.body).getD .skip
def W:List Nat:=[0,1,4]
def res (r:Bool):D×List D:=(.lit (.bool r),[])
def C (x0:List api_Value) (r:Bool):Prop:=Ret env 77 [.sl (x0.map Aa1),.fn 78 []] (res r).1 (res r).2
theorem enter (x0:List api_Value) (φ:Bool->Prop) (h :
 ∃ r1:Int,q2_.C x0 r1 /\
 φ ((decide (0<=r1)))):∃ r,φ r/\C x0 r:=
 mEnt (fd:=Tryd.f77) (body:=B) (V:=W) (res:=res) <|
 mCal 6 h (fun _ h=>h) fun r1 _ h=>
 mRet 3 h
end q0_
namespace q27_
noncomputable def B:Code:=(Tryd.f60.body).getD .skip
def W:List Nat:=[0,2]
def res (r:Bool):D×List D:=(.lit (.bool r),[])
def C (x0:List api_Value) (r:Bool):Prop:=Ret env 60 [.sl (x0.map Aa1)] (res r).1 (res r).2
theorem enter (x0:List api_Value) (φ:Bool->Prop) (h :
 ∃ r1:Bool,q0_.C x0 r1 /\
 φ ((not r1))):∃ r,φ r/\C x0 r:=
 mEnt (fd:=Tryd.f60) (body:=B) (V:=W) (res:=res) <|
 mCal 5 h (fun _ h=>h) fun r1 _ h=>
 mRet 3 h
end q27_
namespace q59_
noncomputable def B:Code:=(Tryd.f43.body).getD .skip
def W:List Nat:=[0,1,2,3,4,5,7,11,21,23,24,25,26,40,43,44,45,46,49,54,62]
def res (r:Int):D×List D:=(.lit (.int .i64 r),[])
def C (x0:api_Table) (r:Int):Prop:=Ret env 43 [.agg [.lit (.string x0.Name),.sl (x0.Attrs.map eS),.sl (x0.Rows.map Aa2)]] (res r).1 (res r).2
def L1 (x0:api_Table) (z0:Int) (φ:Int->Prop):Prop:=Pt env 43 W B [1,1,1,0,1,0] [(0,.agg [.lit (.string x0.Name),.sl (x0.Attrs.map eS),.sl (x0.Rows.map Aa2)]),(1,.box [.lit (.string x0.Name),.sl (x0.Attrs.map eS),.sl (x0.Rows.map Aa2)]),(23,.sl (x0.Attrs.map eS)),(24,.lit (.int .i64 ((x0.Attrs.length:Int)))),(25,.lit (.int .i64 z0))] (Lv env 43 Tryd.f43 1 res φ)
def L2 (x0:api_Table) (z0 z1:Int) (φ:Int->Prop):Prop:=Pt env 43 W B [1,1,1,1,1,0,1,0] [(0,.agg [.lit (.string x0.Name),.sl (x0.Attrs.map eS),.sl (x0.Rows.map Aa2)]),(1,.box [.lit (.string x0.Name),.sl (x0.Attrs.map eS),.sl (x0.Rows.map Aa2)]),(5,.lit (.int .i64 z0)),(43,.sl (x0.Rows.map Aa2)),(44,.lit (.int .i64 ((x0.Rows.length:Int)))),(45,.lit (.int .i64 z1))] (Lv env 43 Tryd.f43 1 res φ)
theorem L1_step (x0:api_Table) (z0:Int) (φ:Int->Prop) (h :
 (if z0<(x0.Attrs.length:Int) then
 ∃ a2,lget x0.Attrs z0=some a2 /\
 ∃ r4:Bool,q55_.C a2 r4 /\
 (if r4=true then
 0<=z0 /\
 (0<=z0.toNat/\z0.toNat<=x0.Attrs.length) /\
 ∃ r7:Bool,q17_.C ((List.take (z0.toNat-0) x0.Attrs)) a2 r7 /\
 (if r7=true then
 φ 1
 else
 q59_.L1 x0 ((IntKind.wrap .i64 (z0+1))) φ)
 else
 φ 1)
 else
 q59_.L2 x0 0 0 φ)):L1 x0 z0 φ:=
 mIn <|
 mAsk 2 h dT dF (fun h=>
 mIx 5 eS h fun a2 h3 h=>
 Acg 6 h (fun _ h=>h) (fun _ h=>
 h.elim fun h5 h=>
 h.elim fun h6 h=>
 mVl 5 (Alw (t:=62) (x:=(.tmp 35)) (lo:=none) (hi:=(some (.tmp 36))) (lo':=none) (hi':=some (z0).toNat) (e:=eS) (l:=x0.Attrs) (et:=9) (k:=1) (by kernel_rfl) (by kernel_rfl) An2 (An3 (i:=z0) (q:=.i64) (by kernel_rfl) h5) (by kernel_rfl) (by kernel_rfl) (fun _=>rfl) (by kernel_rfl) h6.1 h6.2) <|
 Acg 1 h (fun _ h=>h) (fun _ h=>
 mRet 6 h) fun _ h=>
 mFin 8 h) fun _ h=>
 mRet 14 h) fun h=>
 mLen 9 Aa2 x0.Rows <|
 mFin 2 h
theorem L2_step (x0:api_Table) (z0 z1:Int) (φ:Int->Prop) (h :
 (if z1<(x0.Rows.length:Int) then
 ∃ a8,lget x0.Rows z1=some a8 /\
 (if a8.ID<=z0 then
 φ 1
 else
 (if (a8.Values.length:Int)=(x0.Attrs.length:Int) then
 ∃ r10:Bool,q27_.C a8.Values r10 /\
 (if r10=true then
 q59_.L2 x0 a8.ID ((IntKind.wrap .i64 (z1+1))) φ
 else
 φ 1)
 else
 φ 6))
 else
 φ 0)):L2 x0 z0 z1 φ:=
 mIn <|
 mAsk 2 h dT dF (fun h=>
 mIx 4 Aa2 h fun a8 h9 h=>
 mCon 11 h dT dF (fun h=>
 mRet 3 h) fun h=>
 mLen 3 Aa1 a8.Values <|
 mLen 2 eS x0.Attrs <|
 Bab 3 h Ai5 Ai4 (fun h=>
 mRet 3 h) fun h=>
 mCal 3 h (fun _ h=>h) fun r10 _ h=>
 Bab 3 h (fun h=>fls (Beb h)) (fun h=>id (Bea h)) (fun h=>
 mRet 3 h) fun h=>
 mFin 10 h) fun h=>
 mRet 6 h
theorem enter (x0:api_Table) (φ:Int->Prop) (h :
 ∃ r1:Bool,q55_.C x0.Name r1 /\
 (if r1=true then
 (if 16<(x0.Attrs.length:Int) then
 φ 3
 else
 (if 1000<(x0.Rows.length:Int) then
 φ 3
 else
 q59_.L1 x0 0 φ))
 else
 φ 1)):∃ r,φ r/\C x0 r:=
 mEnt (fd:=Tryd.f43) (body:=B) (V:=W) (res:=res) <|
 Acg 7 h (fun _ h=>h) (fun _ h=>
 mLen 7 eS x0.Attrs <|
 mAsk 0 h dT dF (fun h=>
 mRet 11 h) fun h=>
 mLen 3 Aa2 x0.Rows <|
 mAsk 0 h dT dF (fun h=>
 mRet 6 h) fun h=>
 mLen 7 eS x0.Attrs <|
 mFin 2 h) fun _ h=>
 mRet 6 h
end q59_
namespace q33_
noncomputable def B:Code:=(Tryd.f83.body).getD .skip
def W:List Nat:=[0,1,2,4,5,15,20]
def res (r:Bool):D×List D:=(.lit (.bool r),[])
def C (x0:api_Value) (r:Bool):Prop:=Ret env 83 [.agg [.lit (.int .i64 x0.Kind),.lit (.int .i64 x0.Num),.lit (.string x0.Str)]] (res r).1 (res r).2
theorem enter (x0:api_Value) (φ:Bool->Prop) (h :
 (if x0.Kind=0 then
 (if x0.Num=0 then
 φ ((x0.Str.toList == ((⟨#[]⟩:ByteArray)).toList))
 else
 φ false)
 else
 (if x0.Kind=1 then
 φ ((x0.Str.toList == ((⟨#[]⟩:ByteArray)).toList))
 else
 (if x0.Kind=2 then
 (if x0.Num=0 then
 φ ((decide ((Acf x0.Str)<=200)))
 else
 φ false)
 else
 (if x0.Kind=3 then
 (if 1<=x0.Num then
 φ ((x0.Str.toList == ((⟨#[]⟩:ByteArray)).toList))
 else
 φ false)
 else
 φ false))))):∃ r,φ r/\C x0 r:=
 mEnt (fd:=Tryd.f83) (body:=B) (V:=W) (res:=res) <|
 mCon 12 h Acd Acb (fun h=>
 mAsk 3 h Acd Acb (fun h=>
 mRet 7 h) fun h=>
 mRet 7 h) fun h=>
 mCon 4 h Acd Acb (fun h=>
 mRet 6 h) fun h=>
 mCon 4 h Acd Acb (fun h=>
 mAsk 3 h Acd Acb (fun h=>
 mRet 8 h) fun h=>
 mRet 8 h) fun h=>
 mAsk 4 h Acd Acb (fun h=>
 mAsk 3 h dT dF (fun h=>
 mRet 8 h) fun h=>
 mRet 8 h) fun h=>
 mRet 12 h
end q33_
namespace q28_
noncomputable def B:Code:=(Tryd.f64.body).getD .skip
def W:List Nat:=[0,2,3,7,15]
def res (r:Bool):D×List D:=(.lit (.bool r),[])
def C (x0:List api_Value) (r:Bool):Prop:=Ret env 64 [.sl (x0.map Aa1)] (res r).1 (res r).2
def L1 (x0:List api_Value) (z0:Int) (φ:Bool->Prop):Prop:=Pt env 64 W B [1,0,1,0] [(0,.sl (x0.map Aa1)),(3,.lit (.int .i64 z0))] (Lv env 64 Tryd.f64 1 res φ)
theorem L1_step (x0:List api_Value) (z0:Int) (φ:Bool->Prop) (h :
 (if z0<(x0.length:Int) then
 ∃ a1,lget x0 z0=some a1 /\
 ∃ r3:Bool,q33_.C a1 r3 /\
 (if r3=true then
 q28_.L1 x0 ((IntKind.wrap .i64 (z0+1))) φ
 else
 φ false)
 else
 φ true)):L1 x0 z0 φ:=
 mIn <|
 mLen 4 Aa1 x0 <|
 mAsk 0 h dT dF (fun h=>
 mIx 6 Aa1 h fun a1 h2 h=>
 Acg 1 h (fun _ h=>h) (fun _ h=>
 mFin 9 h) fun _ h=>
 mRet 6 h) fun h=>
 mRet 6 h
theorem enter (x0:List api_Value) (φ:Bool->Prop) (h :
 q28_.L1 x0 0 φ):∃ r,φ r/\C x0 r:=
 mEnt (fd:=Tryd.f64) (body:=B) (V:=W) (res:=res) <|
 mFin 6 h
end q28_
namespace q29_
noncomputable def B:Code:=(Tryd.f81.body).getD .skip
def W:List Nat:=[0,2]
def res (r:Bool):D×List D:=(.lit (.bool r),[])
def C (x0:Int) (r:Bool):Prop:=Ret env 81 [.lit (.int .u8 x0)] (res r).1 (res r).2
theorem enter (x0:Int) (φ:Bool->Prop) (h :
 (if 97<=x0 then
 (if x0<=122 then
 φ true
 else
 (if 65<=x0 then
 (if x0<=90 then
 φ true
 else
 φ ((x0 == 95)))
 else
 φ ((x0 == 95))))
 else
 (if 65<=x0 then
 (if x0<=90 then
 φ true
 else
 φ ((x0 == 95)))
 else
 φ ((x0 == 95))))):∃ r,φ r/\C x0 r:=
 mEnt (fd:=Tryd.f81) (body:=B) (V:=W) (res:=res) <|
 mAsk 5 h dT dF (fun h=>
 mAsk 2 h dT dF (fun h=>
 mRet 15 h) fun h=>
 mAsk 3 h dT dF (fun h=>
 mAsk 2 h dT dF (fun h=>
 mRet 8 h) fun h=>
 mRet 8 h) fun h=>
 mRet 11 h) fun h=>
 mAsk 6 h dT dF (fun h=>
 mAsk 2 h dT dF (fun h=>
 mRet 8 h) fun h=>
 mRet 8 h) fun h=>
 mRet 11 h
end q29_
namespace q41_
noncomputable def B:Code:=(Tryd.f62.body).getD .skip
def W:List Nat:=[0,2,3,21,25,44]
def res (r:Bool):D×List D:=(.lit (.bool r),[])
def C (x0:ByteArray) (r:Bool):Prop:=Ret env 62 [.lit (.string x0)] (res r).1 (res r).2
def L1 (x0:ByteArray) (z0:Int) (φ:Bool->Prop):Prop:=Pt env 62 W B [1,1,0,1,0] [(0,.lit (.string x0)),(3,.lit (.int .i64 z0))] (Lv env 62 Tryd.f62 1 res φ)
def L2 (x0:ByteArray) (z0:Int) (φ:Bool->Prop):Prop:=Pt env 62 W B [1,1,0,1,0,0,1,1] [(0,.lit (.string x0)),(3,.lit (.int .i64 z0))] (Lv env 62 Tryd.f62 1 res φ)
theorem L1_step (x0:ByteArray) (z0:Int) (φ:Bool->Prop) (h :
 (if z0<(Acf x0) then
 ∃ b5,((0:Int)<=z0/\x0[(z0).toNat]? = some b5) /\
 ∃ r8:Bool,q29_.C ((u8i b5)) r8 /\
 (if r8=true then
 q41_.L2 x0 z0 φ
 else
 ∃ b9,((0:Int)<=z0/\x0[(z0).toNat]? = some b9) /\
 (if (u8i b9)<48 then
 φ false
 else
 ∃ b12,((0:Int)<=z0/\x0[(z0).toNat]? = some b12) /\
 (if 57<(u8i b12) then
 φ false
 else
 q41_.L2 x0 z0 φ)))
 else
 φ true)):L1 x0 z0 φ:=
 mIn <|
 mAsk 5 h dT dF (fun h=>
 mSt 6 h fun b5 h=>
 Acg 0 h (fun _ h=>h) (fun _ h=>
 mFin 16 h) fun _ h=>
 mSt 4 h fun b9 h=>
 mAsk 0 h dT dF (fun h=>
 mRet 12 h) fun h=>
 mSt 3 h fun b12 h=>
 mAsk 0 h dT dF (fun h=>
 mRet 7 h) fun h=>
 mFin 5 h) fun h=>
 mRet 6 h
theorem L2_step (x0:ByteArray) (z0:Int) (φ:Bool->Prop) (h :
 q41_.L1 x0 ((IntKind.wrap .i64 (z0+1))) φ):L2 x0 z0 φ:=
 mIn <|
 mFin 5 h
theorem enter (x0:ByteArray) (φ:Bool->Prop) (h :
 (if (Acf x0)=0 then
 φ false
 else
 (if 24<(Acf x0) then
 φ false
 else
 ∃ b1,((0:Int)<=0/\x0[((0:Int)).toNat]? = some b1) /\
 ∃ r4:Bool,q29_.C ((u8i b1)) r4 /\
 (if r4=true then
 (if x0.toList=((⟨#[110,117,108,108]⟩:ByteArray)).toList then
 φ false
 else
 q41_.L1 x0 0 φ)
 else
 φ false)))):∃ r,φ r/\C x0 r:=
 mEnt (fd:=Tryd.f62) (body:=B) (V:=W) (res:=res) <|
 mAsk 6 h Acd Acb (fun h=>
 mRet 20 h) fun h=>
 mAsk 3 h dT dF (fun h=>
 mRet 16 h) fun h=>
 mSt 3 h fun b1 h=>
 Acg 0 h (fun _ h=>h) (fun _ h=>
 mAsk 4 h Apj Api (fun h=>
 mRet 6 h) fun h=>
 mFin 7 h) fun _ h=>
 mRet 11 h
end q41_
namespace q42_
noncomputable def B:Code:=(Tryd.f82.body).getD .skip
def W:List Nat:=[0,1,4,5,9,17]
def res (r:Int):D×List D:=(.lit (.int .i64 r),[])
def C (x0:List ByteArray) (x1:ByteArray) (r:Int):Prop:=Ret env 82 [.sl (x0.map eS),.lit (.string x1)] (res r).1 (res r).2
def L1 (x0:List ByteArray) (x1:ByteArray) (z0:Int) (φ:Int->Prop):Prop:=Pt env 82 W B [1,0,1,0] [(0,.sl (x0.map eS)),(1,.lit (.string x1)),(5,.lit (.int .i64 z0))] (Lv env 82 Tryd.f82 2 res φ)
theorem L1_step (x0:List ByteArray) (x1:ByteArray) (z0:Int) (φ:Int->Prop) (h :
 (if z0<(x0.length:Int) then
 ∃ a1,lget x0 z0=some a1 /\
 (if a1.toList=x1.toList then
 φ z0
 else
 q42_.L1 x0 x1 ((IntKind.wrap .i64 (z0+1))) φ)
 else
 φ ((-1)))):L1 x0 x1 z0 φ:=
 mIn <|
 mLen 4 eS x0 <|
 mAsk 0 h dT dF (fun h=>
 mIx 6 eS h fun a1 h2 h=>
 mAsk 2 h Apj Api (fun h=>
 mRet 6 h) fun h=>
 mFin 8 h) fun h=>
 mRet 6 h
theorem enter (x0:List ByteArray) (x1:ByteArray) (φ:Int->Prop) (h :
 q42_.L1 x0 x1 0 φ):∃ r,φ r/\C x0 x1 r:=
 mEnt (fd:=Tryd.f82) (body:=B) (V:=W) (res:=res) <|
 mFin 6 h
end q42_
namespace q34_
noncomputable def B:Code:=(Tryd.f63.body).getD .skip
def W:List Nat:=[0,2,3,7,26]
def res (r:Bool):D×List D:=(.lit (.bool r),[])
def C (x0:List ByteArray) (r:Bool):Prop:=Ret env 63 [.sl (x0.map eS)] (res r).1 (res r).2
def L1 (x0:List ByteArray) (z0:Int) (φ:Bool->Prop):Prop:=Pt env 63 W B [1,0,1,0] [(0,.sl (x0.map eS)),(3,.lit (.int .i64 z0))] (Lv env 63 Tryd.f63 1 res φ)
theorem L1_step (x0:List ByteArray) (z0:Int) (φ:Bool->Prop) (h :
 (if z0<(x0.length:Int) then
 ∃ a1,lget x0 z0=some a1 /\
 ∃ r3:Bool,q41_.C a1 r3 /\
 (if r3=true then
 0<=z0 /\
 (0<=z0.toNat/\z0.toNat<=x0.length) /\
 ∃ r6:Int,q42_.C ((List.take (z0.toNat-0) x0)) a1 r6 /\
 (if 0<=r6 then
 φ false
 else
 q34_.L1 x0 ((IntKind.wrap .i64 (z0+1))) φ)
 else
 φ false)
 else
 φ true)):L1 x0 z0 φ:=
 mIn <|
 mLen 4 eS x0 <|
 mAsk 0 h dT dF (fun h=>
 mIx 6 eS h fun a1 h2 h=>
 Acg 1 h (fun _ h=>h) (fun _ h=>
 h.elim fun h4 h=>
 h.elim fun h5 h=>
 mVl 4 (Alw (t:=62) (x:=(.tmp 17)) (lo:=none) (hi:=(some (.tmp 18))) (lo':=none) (hi':=some (z0).toNat) (e:=eS) (l:=x0) (et:=9) (k:=1) (by kernel_rfl) (by kernel_rfl) An2 (An3 (i:=z0) (q:=.i64) (by kernel_rfl) h4) (by kernel_rfl) (by kernel_rfl) (fun _=>rfl) (by kernel_rfl) h5.1 h5.2) <|
 mIxf 2 eS h2 <|
 mCal 1 h (fun _ h=>h) fun r6 _ h=>
 mAsk 0 h dT dF (fun h=>
 mRet 6 h) fun h=>
 mFin 9 h) fun _ h=>
 mRet 17 h) fun h=>
 mRet 6 h
theorem enter (x0:List ByteArray) (φ:Bool->Prop) (h :
 q34_.L1 x0 0 φ):∃ r,φ r/\C x0 r:=
 mEnt (fd:=Tryd.f63) (body:=B) (V:=W) (res:=res) <|
 mFin 6 h
end q34_
namespace q35_
noncomputable def B:Code:=(Tryd.f45.body).getD .skip
def W:List Nat:=[0,1,2,3,4,5,9,19,23,28,39,48,52]
def res (r:Int):D×List D:=(.lit (.int .i64 r),[])
def C (x0:api_Table) (r:Int):Prop:=Ret env 45 [.agg [.lit (.string x0.Name),.sl (x0.Attrs.map eS),.sl (x0.Rows.map Aa2)]] (res r).1 (res r).2
def L1 (x0:api_Table) (z0 z1:Int) (φ:Int->Prop):Prop:=Pt env 45 W B [1,1,1,1,1,0,1,0] [(0,.agg [.lit (.string x0.Name),.sl (x0.Attrs.map eS),.sl (x0.Rows.map Aa2)]),(1,.box [.lit (.string x0.Name),.sl (x0.Attrs.map eS),.sl (x0.Rows.map Aa2)]),(3,.lit (.int .i64 z0)),(4,.lit (.int .i64 z1))] (Lv env 45 Tryd.f45 1 res φ)
theorem L1_step (x0:api_Table) (z0 z1:Int) (φ:Int->Prop) (h :
 (if z1<(x0.Rows.length:Int) then
 ∃ a3,lget x0.Rows z1=some a3 /\
 (if a3.ID<=z0 then
 φ 1
 else
 (if (a3.Values.length:Int)=(x0.Attrs.length:Int) then
 ∃ r5:Bool,q28_.C a3.Values r5 /\
 (if r5=true then
 q35_.L1 x0 a3.ID ((IntKind.wrap .i64 (z1+1))) φ
 else
 φ 1)
 else
 φ 6))
 else
 φ 0)):L1 x0 z0 z1 φ:=
 mIn <|
 mLen 5 Aa2 x0.Rows <|
 mAsk 0 h dT dF (fun h=>
 mIx 7 Aa2 h fun a3 h4 h=>
 mAsk 8 h dT dF (fun h=>
 mRet 5 h) fun h=>
 mLen 11 Aa1 a3.Values <|
 mLen 2 eS x0.Attrs <|
 Ak3 0 h Ai5 Ai4 (fun h=>
 mRet 5 h) fun h=>
 Acg 6 h (fun _ h=>h) (fun _ h=>
 mFin 9 h) fun _ h=>
 mRet 6 h) fun h=>
 mRet 6 h
theorem enter (x0:api_Table) (φ:Int->Prop) (h :
 ∃ r1:Bool,q41_.C x0.Name r1 /\
 (if r1=true then
 (if 16<(x0.Attrs.length:Int) then
 φ 3
 else
 (if 1000<(x0.Rows.length:Int) then
 φ 3
 else
 ∃ r2:Bool,q34_.C x0.Attrs r2 /\
 (if r2=true then
 q35_.L1 x0 0 0 φ
 else
 φ 1)))
 else
 φ 1)):∃ r,φ r/\C x0 r:=
 mEnt (fd:=Tryd.f45) (body:=B) (V:=W) (res:=res) <|
 Acg 7 h (fun _ h=>h) (fun _ h=>
 mLen 7 eS x0.Attrs <|
 mAsk 0 h dT dF (fun h=>
 mRet 11 h) fun h=>
 mLen 3 Aa2 x0.Rows <|
 mAsk 0 h dT dF (fun h=>
 mRet 6 h) fun h=>
 Acg 7 h (fun _ h=>h) (fun _ h=>
 mFin 10 h) fun _ h=>
 mRet 6 h) fun _ h=>
 mRet 6 h
end q35_
namespace q43_
noncomputable def B:Code:=(Tryd.f51.body).getD .skip
def W:List Nat:=[0,2,3,5]
def res (r:List Int):D×List D:=(.own (r.map (eI .i64)),[])
def C (x0:Int) (r:List Int):Prop:=Ret env 51 [.lit (.int .u32 x0)] (res r).1 (res r).2
def L1 (x0:Int) (z0:List Int) (φ:List Int->Prop):Prop:=Pt env 51 W B [1,1,0,0] [(0,.lit (.int .u32 x0)),(3,.own (z0.map (eI .i64)))] (Lv env 51 Tryd.f51 1 res φ)
theorem L1_step (x0:Int) (z0:List Int) (φ:List Int->Prop) (h :
 (if x0=0 then
 φ z0
 else
 (0<=x0/\x0<4294967296) /\
 (z0.length+1)*8<=140737488355328 /\
 q43_.L1 ((bAnd .u32 x0 (IntKind.wrap .u32 (x0-1)))) ((z0++[(tz32 x0)])) φ)):L1 x0 z0 φ:=
 mIn <|
 Ak3 3 h Ai5 Ai4 (fun h=>
 h.elim fun h1 h=>
 Be8 6 (show Ret env 73 [.lit (.int .u32 x0)] (.lit (.int .i64 ((tz32 x0)))) [] from Ayd (by kernel_rfl) h1) <|
 mApp 1 (eI .i64) z0 ([(tz32 x0)]) h fun h=>
 mFin 9 h) fun h=>
 mRet 7 h
theorem enter (x0:Int) (φ:List Int->Prop) (h :
 q43_.L1 x0 ([]) φ):∃ r,φ r/\C x0 r:=
 mEnt (fd:=Tryd.f51) (body:=B) (V:=W) (res:=res) <|
 mFin 6 h
end q43_
namespace q44_
noncomputable def B:Code:=(Tryd.f11.body).getD .skip
def W:List Nat:=[0,2,3,4,11]
def res (r:Int):D×List D:=(.lit (.int .u32 r),[])
def C (x0 r:Int):Prop:=Ret env 11 [.lit (.int .i64 x0)] (res r).1 (res r).2
def L1 (x0 z0 z1:Int) (φ:Int->Prop):Prop:=Pt env 11 W B [1,1,0,1,0] [(0,.lit (.int .i64 x0)),(3,.lit (.int .u32 z0)),(4,.lit (.int .i64 z1))] (Lv env 11 Tryd.f11 1 res φ)
theorem L1_step (x0 z0 z1:Int) (φ:Int->Prop) (h :
 (if z1<x0 then
 (if z1<32 then
 0<=z1 /\
 q44_.L1 x0 ((bOr .u32 z0 (shlw .u32 1 z1))) ((IntKind.wrap .i64 (z1+1))) φ
 else
 φ z0)
 else
 φ z0)):L1 x0 z0 z1 φ:=
 mIn <|
 mAsk 4 h dT dF (fun h=>
 mAsk 2 h dT dF (fun h=>
 h.elim fun h1 h=>
 mBi 7 (Av8 (t:=33) (q:=.u32) (q':=.i64) (i1:=1) h1) <|
 mFin 8 h) fun h=>
 mRet 8 h) fun h=>
 mRet 11 h
theorem enter (x0:Int) (φ:Int->Prop) (h :
 q44_.L1 x0 0 0 φ):∃ r,φ r/\C x0 r:=
 mEnt (fd:=Tryd.f11) (body:=B) (V:=W) (res:=res) <|
 mFin 9 h
end q44_
namespace q50_
noncomputable def B:Code:=(Tryd.f85.body).getD .skip
def W:List Nat:=[0,1,4]
def res (r:Bool):D×List D:=(.lit (.bool r),[])
def C (x0 x1:Int) (r:Bool):Prop:=Ret env 85 [.lit (.int .u32 x0),.lit (.int .i64 x1)] (res r).1 (res r).2
theorem enter (x0 x1:Int) (φ:Bool->Prop) (h :
 (if 0<=x1 then
 (if x1<32 then
 0<=x1 /\
 φ (((bAnd .u32 (shrw .u32 x0 x1) 1) == 1))
 else
 φ false)
 else
 φ false)):∃ r,φ r/\C x0 x1 r:=
 mEnt (fd:=Tryd.f85) (body:=B) (V:=W) (res:=res) <|
 mAsk 5 h dT dF (fun h=>
 mAsk 2 h dT dF (fun h=>
 h.elim fun h1 h=>
 mBi 4 (Av9 (t:=33) (q:=.u32) (q':=.i64) (i1:=x0) h1) <|
 mRet 5 h) fun h=>
 mRet 10 h) fun h=>
 mRet 13 h
end q50_
namespace q45_
noncomputable def B:Code:=(Tryd.f94.body).getD .skip
def W:List Nat:=[0,1,4,7,10]
def res (r:Int):D×List D:=(.lit (.int .i64 r),[])
def C (x0 x1 r:Int):Prop:=Ret env 94 [.lit (.int .i64 x0),.lit (.int .i64 x1)] (res r).1 (res r).2
theorem enter (x0 x1:Int) (φ:Int->Prop) (h :
 (if x0<x1 then
 φ ((-1))
 else
 (if x1<x0 then
 φ 1
 else
 φ 0))):∃ r,φ r/\C x0 x1 r:=
 mEnt (fd:=Tryd.f94) (body:=B) (V:=W) (res:=res) <|
 mAsk 6 h dT dF (fun h=>
 mRet 5 h) fun h=>
 mAsk 6 h dT dF (fun h=>
 mRet 5 h) fun h=>
 mRet 6 h
end q45_
namespace q25_
noncomputable def B:Code:=(Tryd.f108.body).getD .skip
def W:List Nat:=[0,1,4,5,15,24]
def res (r:Int):D×List D:=(.lit (.int .i64 r),[])
def C (x0 x1:ByteArray) (r:Int):Prop:=Ret env 108 [.lit (.string x0),.lit (.string x1)] (res r).1 (res r).2
def L1 (x0 x1:ByteArray) (z0:Int) (φ:Int->Prop):Prop:=Pt env 108 W B [1,0,1,0] [(0,.lit (.string x0)),(1,.lit (.string x1)),(5,.lit (.int .i64 z0))] (Lv env 108 Tryd.f108 2 res φ)
def L2 (x0 x1:ByteArray) (φ:Int->Prop):Prop:=Pt env 108 W B [1,1,0] [(0,.lit (.string x0)),(1,.lit (.string x1))] (Lv env 108 Tryd.f108 2 res φ)
theorem L1_step (x0 x1:ByteArray) (z0:Int) (φ:Int->Prop) (h :
 (if z0<(Acf x0) then
 (if z0<(Acf x1) then
 ∃ b1,((0:Int)<=z0/\x0[(z0).toNat]? = some b1) /\
 ∃ b4,((0:Int)<=z0/\x1[(z0).toNat]? = some b4) /\
 (if (u8i b1)=(u8i b4) then
 q25_.L1 x0 x1 ((IntKind.wrap .i64 (z0+1))) φ
 else
 ∃ b7,((0:Int)<=z0/\x0[(z0).toNat]? = some b7) /\
 ∃ b10,((0:Int)<=z0/\x1[(z0).toNat]? = some b10) /\
 ∃ r13:Int,q45_.C ((IntKind.wrap .i64 (u8i b7))) ((IntKind.wrap .i64 (u8i b10))) r13 /\
 φ r13)
 else
 q25_.L2 x0 x1 φ)
 else
 q25_.L2 x0 x1 φ)):L1 x0 x1 z0 φ:=
 mIn <|
 mAsk 5 h dT dF (fun h=>
 mAsk 4 h dT dF (fun h=>
 mSt 7 h fun b1 h=>
 mSt 2 h fun b4 h=>
 Ak3 0 h Ai5 Ai4 (fun h=>
 mSt 5 h fun b7 h=>
 mSt 3 h fun b10 h=>
 mCal 1 h (fun _ h=>h) fun r13 _ h=>
 mRet 2 h) fun h=>
 mFin 8 h) fun h=>
 mFin 4 h) fun h=>
 mFin 9 h
theorem L2_step (x0 x1:ByteArray) (φ:Int->Prop) (h :
 ∃ r14:Int,q45_.C ((Acf x0)) ((Acf x1)) r14 /\
 φ r14):L2 x0 x1 φ:=
 mIn <|
 mCal 5 h (fun _ h=>h) fun r14 _ h=>
 mRet 2 h
theorem enter (x0 x1:ByteArray) (φ:Int->Prop) (h :
 q25_.L1 x0 x1 0 φ):∃ r,φ r/\C x0 x1 r:=
 mEnt (fd:=Tryd.f108) (body:=B) (V:=W) (res:=res) <|
 mFin 6 h
end q25_
namespace q26_
noncomputable def B:Code:=(Tryd.f93.body).getD .skip
def W:List Nat:=[0,1,2,3,4,5,6,13,21]
def res (r:Int):D×List D:=(.lit (.int .i64 r),[])
def C (x0 x1:api_Value) (r:Int):Prop:=Ret env 93 [.agg [.lit (.int .i64 x0.Kind),.lit (.int .i64 x0.Num),.lit (.string x0.Str)],.agg [.lit (.int .i64 x1.Kind),.lit (.int .i64 x1.Num),.lit (.string x1.Str)]] (res r).1 (res r).2
theorem enter (x0 x1:api_Value) (φ:Int->Prop) (h :
 ∃ r1:Int,q45_.C x0.Kind x1.Kind r1 /\
 (if r1=0 then
 ∃ r2:Int,q45_.C x0.Num x1.Num r2 /\
 (if r2=0 then
 ∃ r3:Int,q25_.C x0.Str x1.Str r3 /\
 φ r3
 else
 φ r2)
 else
 φ r1)):∃ r,φ r/\C x0 x1 r:=
 mEnt (fd:=Tryd.f93) (body:=B) (V:=W) (res:=res) <|
 mCal 10 h (fun _ h=>h) fun r1 _ h=>
 Ak3 4 h Ai5 Ai4 (fun h=>
 mRet 6 h) fun h=>
 mCal 8 h (fun _ h=>h) fun r2 _ h=>
 Ak3 4 h Ai5 Ai4 (fun h=>
 mRet 6 h) fun h=>
 mCal 8 h (fun _ h=>h) fun r3 _ h=>
 mRet 2 h
end q26_
namespace q36_
noncomputable def B:Code:=(Tryd.f84.body).getD .skip
def W:List Nat:=[0,1,4,5,6,16,29]
def res (r:Int):D×List D:=(.lit (.int .i64 r),[])
def C (x0 x1:List api_Value) (r:Int):Prop:=Ret env 84 [.sl (x0.map Aa1),.sl (x1.map Aa1)] (res r).1 (res r).2
def L1 (x0 x1:List api_Value) (z0:Int) (φ:Int->Prop):Prop:=Pt env 84 W B [1,0,1,0] [(0,.sl (x0.map Aa1)),(1,.sl (x1.map Aa1)),(5,.lit (.int .i64 z0))] (Lv env 84 Tryd.f84 2 res φ)
def L2 (x0 x1:List api_Value) (φ:Int->Prop):Prop:=Pt env 84 W B [1,1,0] [(0,.sl (x0.map Aa1)),(1,.sl (x1.map Aa1))] (Lv env 84 Tryd.f84 2 res φ)
theorem L1_step (x0 x1:List api_Value) (z0:Int) (φ:Int->Prop) (h :
 (if z0<(x0.length:Int) then
 (if z0<(x1.length:Int) then
 ∃ a1,lget x0 z0=some a1 /\
 ∃ a3,lget x1 z0=some a3 /\
 ∃ r5:Int,q26_.C a1 a3 r5 /\
 (if r5=0 then
 q36_.L1 x0 x1 ((IntKind.wrap .i64 (z0+1))) φ
 else
 φ r5)
 else
 q36_.L2 x0 x1 φ)
 else
 q36_.L2 x0 x1 φ)):L1 x0 x1 z0 φ:=
 mIn <|
 mLen 4 Aa1 x0 <|
 mAsk 0 h dT dF (fun h=>
 mLen 3 Aa1 x1 <|
 mAsk 0 h dT dF (fun h=>
 mIx 7 Aa1 h fun a1 h2 h=>
 mIx 3 Aa1 h fun a3 h4 h=>
 mCal 1 h (fun _ h=>h) fun r5 _ h=>
 Ak3 4 h Ai5 Ai4 (fun h=>
 mRet 6 h) fun h=>
 mFin 8 h) fun h=>
 mFin 4 h) fun h=>
 mFin 9 h
theorem L2_step (x0 x1:List api_Value) (φ:Int->Prop) (h :
 ∃ r6:Int,q45_.C ((x0.length:Int)) ((x1.length:Int)) r6 /\
 φ r6):L2 x0 x1 φ:=
 mIn <|
 mLen 2 Aa1 x0 <|
 mLen 1 Aa1 x1 <|
 mCal 0 h (fun _ h=>h) fun r6 _ h=>
 mRet 2 h
theorem enter (x0 x1:List api_Value) (φ:Int->Prop) (h :
 q36_.L1 x0 x1 0 φ):∃ r,φ r/\C x0 x1 r:=
 mEnt (fd:=Tryd.f84) (body:=B) (V:=W) (res:=res) <|
 mFin 6 h
end q36_
namespace q46_
noncomputable def B:Code:=(Tryd.f65.body).getD .skip
def W:List Nat:=[0,1,4]
def res (r:Bool):D×List D:=(.lit (.bool r),[])
def C (x0 x1:List api_Value) (r:Bool):Prop:=Ret env 65 [.sl (x0.map Aa1),.sl (x1.map Aa1)] (res r).1 (res r).2
theorem enter (x0 x1:List api_Value) (φ:Bool->Prop) (h :
 ∃ r1:Int,q36_.C x0 x1 r1 /\
 φ ((r1 == 0))):∃ r,φ r/\C x0 x1 r:=
 mEnt (fd:=Tryd.f65) (body:=B) (V:=W) (res:=res) <|
 mCal 6 h (fun _ h=>h) fun r1 _ h=>
 mRet 3 h
end q46_
namespace q56_
noncomputable def B:Code:=(Tryd.f80.body).getD .skip
def W:List Nat:=[0,1,4,5,6,11]
def res (r:List Int):D×List D:=(.own (r.map (eI .u8)),[])
def C (x1:Int) (k0_0 r:List Int):Prop:=Ret env 80 [.own (k0_0.map (eI .u8)),.lit (.int .i64 x1)] (res r).1 (res r).2
def L1 (k0_0:List Int) (z0 z1:Int) (φ:List Int->Prop):Prop:=Pt env 80 W B [1,1,0,1,0] [(0,.own (k0_0.map (eI .u8))),(5,.lit (.int .u64 z0)),(6,.lit (.int .i64 z1))] (Lv env 80 Tryd.f80 2 res φ)
theorem L1_step (k0_0:List Int) (z0 z1:Int) (φ:List Int->Prop) (h :
 (if 0<=z1 then
 0<=z1 /\
 (k0_0.length+1)*1<=140737488355328 /\
 q56_.L1 ((k0_0++[(IntKind.wrap .u8 (shrw .u64 z0 z1))])) z0 ((IntKind.wrap .i64 (z1-8))) φ
 else
 φ k0_0)):L1 k0_0 z0 z1 φ:=
 mIn <|
 mAsk 3 h dT dF (fun h=>
 h.elim fun h1 h=>
 mBi 7 (Av9 (t:=140) (q:=.u64) (q':=.i64) (i1:=z0) h1) <|
 mApp 2 (eI .u8) k0_0 ([(IntKind.wrap .u8 (shrw .u64 z0 z1))]) h fun h=>
 mFin 7 h) fun h=>
 mRet 7 h
theorem enter (x1:Int) (k0_0:List Int) (φ:List Int->Prop) (h :
 q56_.L1 k0_0 ((bXor .u64 (IntKind.wrap .u64 x1) 9223372036854775808)) 56 φ):∃ r,φ r/\C x1 k0_0 r:=
 mEnt (fd:=Tryd.f80) (body:=B) (V:=W) (res:=res) <|
 mFin 12 h
end q56_
namespace q62_
noncomputable def B:Code:=(Tryd.f61.body).getD .skip
def W:List Nat:=[0,1,2,3,4,5,8,14,15,22,26,27,28,41]
def res (r:ByteArray×Int):D×List D:=(.tup [.lit (.string r.1),.lit (.int .i64 r.2)],[])
def C (x0:api_Value) (r:ByteArray×Int):Prop:=Ret env 61 [.agg [.lit (.int .i64 x0.Kind),.lit (.int .i64 x0.Num),.lit (.string x0.Str)]] (res r).1 (res r).2
def L2 (x0:api_Value) (z0:Bool) (φ:ByteArray×Int->Prop):Prop:=Pt env 61 W B [1,1,1,0,1,0,1,0] [(0,.agg [.lit (.int .i64 x0.Kind),.lit (.int .i64 x0.Num),.lit (.string x0.Str)]),(1,.box [.lit (.int .i64 x0.Kind),.lit (.int .i64 x0.Num),.lit (.string x0.Str)]),(4,.own (([(IntKind.wrap .u8 x0.Kind)]).map (eI .u8))),(14,.lit (.int .i64 x0.Kind)),(15,.lit (.bool z0))] (Lv env 61 Tryd.f61 1 res φ)
def L3 (x0:api_Value) (φ:ByteArray×Int->Prop):Prop:=Pt env 61 W B [1,1,1,0,1,0,1,1,0] [(0,.agg [.lit (.int .i64 x0.Kind),.lit (.int .i64 x0.Num),.lit (.string x0.Str)]),(1,.box [.lit (.int .i64 x0.Kind),.lit (.int .i64 x0.Num),.lit (.string x0.Str)]),(4,.own (([(IntKind.wrap .u8 x0.Kind)]).map (eI .u8))),(14,.lit (.int .i64 x0.Kind))] (Lv env 61 Tryd.f61 1 res φ)
def L1 (x0:api_Value) (z0:List Int) (z1:Int) (φ:ByteArray×Int->Prop):Prop:=Pt env 61 W B [1,1,1,0,1,0,1,1,1,0,0,1,0] [(0,.agg [.lit (.int .i64 x0.Kind),.lit (.int .i64 x0.Num),.lit (.string x0.Str)]),(1,.box [.lit (.int .i64 x0.Kind),.lit (.int .i64 x0.Num),.lit (.string x0.Str)]),(4,.own (z0.map (eI .u8))),(26,.lit (.int .i64 ((Acf x0.Str)))),(27,.lit (.int .i64 z1))] (Lv env 61 Tryd.f61 1 res φ)
def L4 (x0:api_Value) (z0:List Int) (z1:Int) (φ:ByteArray×Int->Prop):Prop:=Pt env 61 W B [1,1,1,0,1,0,1,1,1,0,0,1,0,0,1,1,1] [(0,.agg [.lit (.int .i64 x0.Kind),.lit (.int .i64 x0.Num),.lit (.string x0.Str)]),(1,.box [.lit (.int .i64 x0.Kind),.lit (.int .i64 x0.Num),.lit (.string x0.Str)]),(4,.own (z0.map (eI .u8))),(26,.lit (.int .i64 ((Acf x0.Str)))),(27,.lit (.int .i64 z1))] (Lv env 61 Tryd.f61 1 res φ)
theorem L2_step (x0:api_Value) (z0:Bool) (φ:ByteArray×Int->Prop) (h :
 ∃ r2:List Int,q56_.C x0.Num ([(IntKind.wrap .u8 x0.Kind)]) r2 /\
 (∀ x∈r2,0<=x/\x<256) /\
 φ (((Ai6 r2),0))):L2 x0 z0 φ:=
 mIn <|
 mCal 4 h (fun _ h=>h) (hf:=(fun _=>Ae2 (Am9 (e:=(eI .u8)) (fun _=>rfl)) rfl)) fun r2 _ h=>
 h.elim fun h3 h=>
 mVl 4 (Alx (s:=119) (t:=9) (et:=5) (x:=(.tmp 49)) (d:=.alias 4 []) (l:=r2) (by kernel_rfl) (by kernel_rfl) (Ajw (by kernel_rfl)) (by kernel_rfl) (by kernel_rfl) (by kernel_rfl) h3) <|
 mRet 3 h
theorem L3_step (x0:api_Value) (φ:ByteArray×Int->Prop) (h :
 (if x0.Kind=2 then
 q62_.L1 x0 ([(IntKind.wrap .u8 x0.Kind)]) 0 φ
 else
 (∀ x∈([(IntKind.wrap .u8 x0.Kind)]),0<=x/\x<256) /\
 φ (((Ai6 [(IntKind.wrap .u8 x0.Kind)]),0)))):L3 x0 φ:=
 mIn <|
 mCon 4 h Acd Acb (fun h=>
 mFin 6 h) fun h=>
 h.elim fun h4 h=>
 mVl 3 (Alx (s:=119) (t:=9) (et:=5) (x:=(.tmp 49)) (d:=.alias 4 []) (l:=[(IntKind.wrap .u8 x0.Kind)]) (by kernel_rfl) (by kernel_rfl) (Ajw (by kernel_rfl)) (by kernel_rfl) (by kernel_rfl) (by kernel_rfl) h4) <|
 mRet 3 h
theorem L1_step (x0:api_Value) (z0:List Int) (z1:Int) (φ:ByteArray×Int->Prop) (h :
 (if z1<(Acf x0.Str) then
 ∃ b5,((0:Int)<=z1/\x0.Str[(z1).toNat]? = some b5) /\
 (z0.length+1)*1<=140737488355328 /\
 ∃ b9,((0:Int)<=z1/\x0.Str[(z1).toNat]? = some b9) /\
 (if (u8i b9)=0 then
 (((z0++[(u8i b5)])).length+1)*1<=140737488355328 /\
 q62_.L4 x0 (((z0++[(u8i b5)])++[255])) z1 φ
 else
 q62_.L4 x0 ((z0++[(u8i b5)])) z1 φ)
 else
 (z0.length+2)*1<=140737488355328 /\
 (∀ x∈((z0++[0,1])),0<=x/\x<256) /\
 φ (((Ai6 (z0++[0,1])),0)))):L1 x0 z0 z1 φ:=
 mIn <|
 mAsk 2 h dT dF (fun h=>
 mSt 12 h fun b5 h=>
 mApp 1 (eI .u8) z0 ([(u8i b5)]) h fun h=>
 mSt 6 h fun b9 h=>
 mAsk 0 h Acd Acb (fun h=>
 mApp 5 (eI .u8) ((z0++[(u8i b5)])) ([255]) h fun h=>
 mFin 2 h) fun h=>
 mFin 3 h) fun h=>
 mApp 6 (eI .u8) z0 ([0,1]) h fun h=>
 h.elim fun h14 h=>
 mVl 4 (Alx (s:=119) (t:=9) (et:=5) (x:=(.tmp 49)) (d:=.alias 4 []) (l:=(z0++[0,1])) (by kernel_rfl) (by kernel_rfl) (Ajw (by kernel_rfl)) (by kernel_rfl) (by kernel_rfl) (by kernel_rfl) h14) <|
 mRet 3 h
theorem L4_step (x0:api_Value) (z0:List Int) (z1:Int) (φ:ByteArray×Int->Prop) (h :
 q62_.L1 x0 z0 ((IntKind.wrap .i64 (z1+1))) φ):L4 x0 z0 z1 φ:=
 mIn <|
 mFin 4 h
theorem enter (x0:api_Value) (φ:ByteArray×Int->Prop) (h :
 ∃ r1:Bool,q58_.C x0 r1 /\
 (if r1=true then
 (if x0.Kind=1 then
 (if x0.Kind=1 then
 q62_.L2 x0 ((x0.Kind == 1)) φ
 else
 q62_.L3 x0 φ)
 else
 (if x0.Kind=3 then
 q62_.L2 x0 ((x0.Kind == 3)) φ
 else
 q62_.L3 x0 φ))
 else
 φ (((⟨#[]⟩:ByteArray),1)))):∃ r,φ r/\C x0 r:=
 mEnt (fd:=Tryd.f61) (body:=B) (V:=W) (res:=res) <|
 Acg 7 h (fun _ h=>h) (fun _ h=>
 mCon 19 h Acd Acb (fun h=>
 mCon 1 h Acd Acb (fun h=>
 mFin 0 h) fun h=>
 mFin 0 h) fun h=>
 mCon 4 h Acd Acb (fun h=>
 mFin 0 h) fun h=>
 mFin 0 h) fun _ h=>
 mRet 7 h
end q62_
namespace q30_
noncomputable def B:Code:=(Tryd.f66.body).getD .skip
def W:List Nat:=[0,1,2,4,5,6,11,16]
def res (r:List api_Value):D×List D:=(.own (r.map Aa1),[])
def C (x0:api_Row) (x1:Int) (r:List api_Value):Prop:=Ret env 66 [.agg [.lit (.int .i64 x0.ID),.sl (x0.Values.map Aa1)],.lit (.int .u32 x1)] (res r).1 (res r).2
def L1 (x0:api_Row) (x1:Int) (z0:List api_Value) (z1:Int) (φ:List api_Value->Prop):Prop:=Pt env 66 W B [1,1,0,1,0] [(0,.agg [.lit (.int .i64 x0.ID),.sl (x0.Values.map Aa1)]),(1,.lit (.int .u32 x1)),(2,.box [.lit (.int .i64 x0.ID),.sl (x0.Values.map Aa1)]),(5,.own (z0.map Aa1)),(6,.lit (.int .i64 z1))] (Lv env 66 Tryd.f66 2 res φ)
def L2 (x0:api_Row) (x1:Int) (z0:List api_Value) (z1:Int) (φ:List api_Value->Prop):Prop:=Pt env 66 W B [1,1,0,1,0,0,1,1] [(0,.agg [.lit (.int .i64 x0.ID),.sl (x0.Values.map Aa1)]),(1,.lit (.int .u32 x1)),(2,.box [.lit (.int .i64 x0.ID),.sl (x0.Values.map Aa1)]),(5,.own (z0.map Aa1)),(6,.lit (.int .i64 z1))] (Lv env 66 Tryd.f66 2 res φ)
theorem L1_step (x0:api_Row) (x1:Int) (z0:List api_Value) (z1:Int) (φ:List api_Value->Prop) (h :
 (if z1<(x0.Values.length:Int) then
 ∃ r1:Bool,q50_.C x1 z1 r1 /\
 (if r1=true then
 ∃ a2,lget x0.Values z1=some a2 /\
 (z0.length+1)*32<=140737488355328 /\
 q30_.L2 x0 x1 ((z0++[a2])) z1 φ
 else
 q30_.L2 x0 x1 z0 z1 φ)
 else
 φ z0)):L1 x0 x1 z0 z1 φ:=
 mIn <|
 mLen 5 Aa1 x0.Values <|
 mAsk 0 h dT dF (fun h=>
 Acg 6 h (fun _ h=>h) (fun _ h=>
 mIx 7 Aa1 h fun a2 h3 h=>
 mApp 2 Aa1 z0 ([a2]) h fun h=>
 mFin 2 h) fun _ h=>
 mFin 3 h) fun h=>
 mRet 7 h
theorem L2_step (x0:api_Row) (x1:Int) (z0:List api_Value) (z1:Int) (φ:List api_Value->Prop) (h :
 q30_.L1 x0 x1 z0 ((IntKind.wrap .i64 (z1+1))) φ):L2 x0 x1 z0 z1 φ:=
 mIn <|
 mFin 5 h
theorem enter (x0:api_Row) (x1:Int) (φ:List api_Value->Prop) (h :
 q30_.L1 x0 x1 ([]) 0 φ):∃ r,φ r/\C x0 x1 r:=
 mEnt (fd:=Tryd.f66) (body:=B) (V:=W) (res:=res) <|
 mFin 10 h
end q30_
namespace q37_
noncomputable def B:Code:=(Tryd.f46.body).getD .skip
def W:List Nat:=[0,1,2,3,4,6]
def res (r:Bool):D×List D:=(.lit (.bool r),[])
def C (x0 x1:api_Row) (x2:Int) (r:Bool):Prop:=Ret env 46 [.agg [.lit (.int .i64 x0.ID),.sl (x0.Values.map Aa1)],.agg [.lit (.int .i64 x1.ID),.sl (x1.Values.map Aa1)],.lit (.int .u32 x2)] (res r).1 (res r).2
theorem enter (x0 x1:api_Row) (x2:Int) (φ:Bool->Prop) (h :
 ∃ r1:List api_Value,q30_.C x0 x2 r1 /\
 ∃ r2:List api_Value,q30_.C x1 x2 r2 /\
 ∃ r3:Bool,q46_.C r1 r2 r3 /\
 φ r3):∃ r,φ r/\C x0 x1 x2 r:=
 mEnt (fd:=Tryd.f46) (body:=B) (V:=W) (res:=res) <|
 mLo 8 h (fun _ h=>h) (hf:=(fun _=>Azo (Am9 (e:=Aa1) (fun _=>rfl)))) fun r1 _ h=>
 mCal 2 h (fun _ h=>h) (hf:=(fun _=>Ae2 (Am9 (e:=Aa1) (fun _=>rfl)) rfl)) fun r2 _ h=>
 mCal 0 h (fun _ h=>h) (hr:=by exact (Avh (Aqo (s:=9) (ps:=[]) (l:=r1) (e:=Aa1) (e':=Aa1) (fun _=>rfl) (by kernel_rfl)) (Avh (Aqo (s:=12) (ps:=[]) (l:=r2) (e:=Aa1) (e':=Aa1) (fun _=>rfl) (by kernel_rfl)) Bdt))) fun r3 _ h=>
 mRet 2 h
end q37_
namespace q51_
noncomputable def B:Code:=(Tryd.f21.body).getD .skip
def W:List Nat:=[0,1,4]
def res (r:Bool):D×List D:=(.lit (.bool r),[])
def C (x0 x1:Int) (r:Bool):Prop:=Ret env 21 [.lit (.int .u32 x0),.lit (.int .u32 x1)] (res r).1 (res r).2
theorem enter (x0 x1:Int) (φ:Bool->Prop) (h :
 φ (((bAnd .u32 x0 x1) == x0))):∃ r,φ r/\C x0 x1 r:=
 mEnt (fd:=Tryd.f21) (body:=B) (V:=W) (res:=res) <|
 mRet 11 h
end q51_
namespace q31_
noncomputable def B:Code:=(Tryd.f42.body).getD .skip
def W:List Nat:=[0,1,4]
def res (r:Bool):D×List D:=(.lit (.bool r),[])
def C (x0 x1:Int) (r:Bool):Prop:=Ret env 42 [.lit (.int .i64 x0),.lit (.int .u32 x1)] (res r).1 (res r).2
theorem enter (x0 x1:Int) (φ:Bool->Prop) (h :
 ∃ r1:Int,q44_.C x0 r1 /\
 ∃ r2:Bool,q51_.C x1 r1 r2 /\
 φ r2):∃ r,φ r/\C x0 x1 r:=
 mEnt (fd:=Tryd.f42) (body:=B) (V:=W) (res:=res) <|
 mCal 6 h (fun _ h=>h) fun r1 _ h=>
 mCal 0 h (fun _ h=>h) fun r2 _ h=>
 mRet 2 h
end q31_
namespace q38_
noncomputable def B:Code:=(Tryd.f47.body).getD .skip
def W:List Nat:=[0,1,2,3,4,5,6,8,9,14,39]
def res (r:Bool):D×List D:=(.lit (.bool r),[])
def C (x0:api_Table) (x1 x2:api_Row) (x3:Int) (r:Bool):Prop:=Ret env 47 [.agg [.lit (.string x0.Name),.sl (x0.Attrs.map eS),.sl (x0.Rows.map Aa2)],.agg [.lit (.int .i64 x1.ID),.sl (x1.Values.map Aa1)],.agg [.lit (.int .i64 x2.ID),.sl (x2.Values.map Aa1)],.lit (.int .u32 x3)] (res r).1 (res r).2
def L1 (x0:api_Table) (x1 x2:api_Row) (x3 z0:Int) (φ:Bool->Prop):Prop:=Pt env 47 W B [1,0,1,0] [(0,.agg [.lit (.string x0.Name),.sl (x0.Attrs.map eS),.sl (x0.Rows.map Aa2)]),(1,.agg [.lit (.int .i64 x1.ID),.sl (x1.Values.map Aa1)]),(2,.agg [.lit (.int .i64 x2.ID),.sl (x2.Values.map Aa1)]),(3,.lit (.int .u32 x3)),(4,.box [.lit (.string x0.Name),.sl (x0.Attrs.map eS),.sl (x0.Rows.map Aa2)]),(5,.box [.lit (.int .i64 x1.ID),.sl (x1.Values.map Aa1)]),(6,.box [.lit (.int .i64 x2.ID),.sl (x2.Values.map Aa1)]),(9,.lit (.int .i64 z0))] (Lv env 47 Tryd.f47 4 res φ)
def L2 (x0:api_Table) (x1 x2:api_Row) (x3 z0:Int) (φ:Bool->Prop):Prop:=Pt env 47 W B [1,0,1,0,0,1,1] [(0,.agg [.lit (.string x0.Name),.sl (x0.Attrs.map eS),.sl (x0.Rows.map Aa2)]),(1,.agg [.lit (.int .i64 x1.ID),.sl (x1.Values.map Aa1)]),(2,.agg [.lit (.int .i64 x2.ID),.sl (x2.Values.map Aa1)]),(3,.lit (.int .u32 x3)),(4,.box [.lit (.string x0.Name),.sl (x0.Attrs.map eS),.sl (x0.Rows.map Aa2)]),(5,.box [.lit (.int .i64 x1.ID),.sl (x1.Values.map Aa1)]),(6,.box [.lit (.int .i64 x2.ID),.sl (x2.Values.map Aa1)]),(9,.lit (.int .i64 z0))] (Lv env 47 Tryd.f47 4 res φ)
theorem L1_step (x0:api_Table) (x1 x2:api_Row) (x3 z0:Int) (φ:Bool->Prop) (h :
 (if z0<(x0.Rows.length:Int) then
 ∃ a1,lget x0.Rows z0=some a1 /\
 ∃ r3:Bool,q37_.C a1 x1 x3 r3 /\
 (if r3=true then
 ∃ r4:Int,q44_.C ((x0.Attrs.length:Int)) r4 /\
 ∃ r5:Bool,q37_.C a1 x2 ((Aak .u32 r4 x3)) r5 /\
 (if r5=true then
 φ true
 else
 q38_.L2 x0 x1 x2 x3 z0 φ)
 else
 q38_.L2 x0 x1 x2 x3 z0 φ)
 else
 φ false)):L1 x0 x1 x2 x3 z0 φ:=
 mIn <|
 mLen 5 Aa2 x0.Rows <|
 mAsk 0 h dT dF (fun h=>
 mIx 7 Aa2 h fun a1 h2 h=>
 Acg 3 h (fun _ h=>h) (fun _ h=>
 mIxf 4 Aa2 h2 <|
 mLen 4 eS x0.Attrs <|
 mLo 0 h (fun _ h=>h) fun r4 _ h=>
 Acg (A:=fun _=>φ true) 2 h (fun _ h=>h) (fun _ h=>
 mRet 6 h) fun _ h=>
 mFin 4 h) fun _ h=>
 mFin 18 h) fun h=>
 mRet 6 h
theorem L2_step (x0:api_Table) (x1 x2:api_Row) (x3 z0:Int) (φ:Bool->Prop) (h :
 q38_.L1 x0 x1 x2 x3 ((IntKind.wrap .i64 (z0+1))) φ):L2 x0 x1 x2 x3 z0 φ:=
 mIn <|
 mFin 5 h
theorem enter (x0:api_Table) (x1 x2:api_Row) (x3:Int) (φ:Bool->Prop) (h :
 q38_.L1 x0 x1 x2 x3 0 φ):∃ r,φ r/\C x0 x1 x2 x3 r:=
 mEnt (fd:=Tryd.f47) (body:=B) (V:=W) (res:=res) <|
 mFin 9 h
end q38_
namespace q39_
noncomputable def B:Code:=(Tryd.f28.body).getD .skip
def W:List Nat:=[0,1,2,3,4,5,6,7,8,9,10,14,26,36,43,74]
def res (r:Bool×Int):D×List D:=(.tup [.lit (.bool r.1),.lit (.int .i64 r.2)],[])
def C (x0:api_Table) (x1:api_MVD) (r:Bool×Int):Prop:=Ret env 28 [.agg [.lit (.string x0.Name),.sl (x0.Attrs.map eS),.sl (x0.Rows.map Aa2)],.agg [.lit (.int .u32 x1.Lhs),.lit (.int .u32 x1.Rhs)]] (res r).1 (res r).2
def L1 (x0:api_Table) (x1:api_MVD) (z0:Int) (φ:Bool×Int->Prop):Prop:=Pt env 28 W B [1,1,1,1,1,0,1,0] [(0,.agg [.lit (.string x0.Name),.sl (x0.Attrs.map eS),.sl (x0.Rows.map Aa2)]),(1,.agg [.lit (.int .u32 x1.Lhs),.lit (.int .u32 x1.Rhs)]),(2,.box [.lit (.string x0.Name),.sl (x0.Attrs.map eS),.sl (x0.Rows.map Aa2)]),(3,.box [.lit (.int .u32 x1.Lhs),.lit (.int .u32 x1.Rhs)]),(8,.lit (.int .u32 ((bOr .u32 x1.Lhs x1.Rhs)))),(9,.lit (.int .i64 z0))] (Lv env 28 Tryd.f28 2 res φ)
def L2 (x0:api_Table) (x1:api_MVD) (z0 z1:Int) (φ:Bool×Int->Prop):Prop:=Pt env 28 W B [1,1,1,1,1,0,1,0,0,1,0,0,1,0] [(0,.agg [.lit (.string x0.Name),.sl (x0.Attrs.map eS),.sl (x0.Rows.map Aa2)]),(1,.agg [.lit (.int .u32 x1.Lhs),.lit (.int .u32 x1.Rhs)]),(2,.box [.lit (.string x0.Name),.sl (x0.Attrs.map eS),.sl (x0.Rows.map Aa2)]),(3,.box [.lit (.int .u32 x1.Lhs),.lit (.int .u32 x1.Rhs)]),(8,.lit (.int .u32 ((bOr .u32 x1.Lhs x1.Rhs)))),(9,.lit (.int .i64 z0)),(10,.lit (.int .i64 z1))] (Lv env 28 Tryd.f28 2 res φ)
def L3 (x0:api_Table) (x1:api_MVD) (z0 z1:Int) (φ:Bool×Int->Prop):Prop:=Pt env 28 W B [1,1,1,1,1,0,1,0,0,1,0,0,1,0,0,1,1] [(0,.agg [.lit (.string x0.Name),.sl (x0.Attrs.map eS),.sl (x0.Rows.map Aa2)]),(1,.agg [.lit (.int .u32 x1.Lhs),.lit (.int .u32 x1.Rhs)]),(2,.box [.lit (.string x0.Name),.sl (x0.Attrs.map eS),.sl (x0.Rows.map Aa2)]),(3,.box [.lit (.int .u32 x1.Lhs),.lit (.int .u32 x1.Rhs)]),(8,.lit (.int .u32 ((bOr .u32 x1.Lhs x1.Rhs)))),(9,.lit (.int .i64 z0)),(10,.lit (.int .i64 z1))] (Lv env 28 Tryd.f28 2 res φ)
theorem L1_step (x0:api_Table) (x1:api_MVD) (z0:Int) (φ:Bool×Int->Prop) (h :
 (if z0<(x0.Rows.length:Int) then
 q39_.L2 x0 x1 z0 0 φ
 else
 φ ((true,0)))):L1 x0 x1 z0 φ:=
 mIn <|
 mLen 5 Aa2 x0.Rows <|
 mAsk 0 h dT dF (fun h=>
 mFin 6 h) fun h=>
 mRet 7 h
theorem L2_step (x0:api_Table) (x1:api_MVD) (z0 z1:Int) (φ:Bool×Int->Prop) (h :
 (if z1<(x0.Rows.length:Int) then
 ∃ a3,lget x0.Rows z0=some a3 /\
 ∃ a5,lget x0.Rows z1=some a5 /\
 ∃ r7:Bool,q37_.C a3 a5 x1.Lhs r7 /\
 (if r7=true then
 ∃ r8:Bool,q38_.C x0 a3 a5 ((bOr .u32 x1.Lhs x1.Rhs)) r8 /\
 (if r8=true then
 q39_.L3 x0 x1 z0 z1 φ
 else
 φ ((false,0)))
 else
 q39_.L3 x0 x1 z0 z1 φ)
 else
 q39_.L1 x0 x1 ((IntKind.wrap .i64 (z0+1))) φ)):L2 x0 x1 z0 z1 φ:=
 mIn <|
 mLen 5 Aa2 x0.Rows <|
 mAsk 0 h dT dF (fun h=>
 mIx 7 Aa2 h fun a3 h4 h=>
 mIx 4 Aa2 h fun a5 h6 h=>
 Acg 3 h (fun _ h=>h) (fun _ h=>
 mIxf 5 Aa2 h4 <|
 mIxf 4 Aa2 h6 <|
 Acg 2 h (fun _ h=>h) (fun _ h=>
 mFin 5 h) fun _ h=>
 mRet 8 h) fun _ h=>
 mFin 19 h) fun h=>
 mFin 8 h
theorem L3_step (x0:api_Table) (x1:api_MVD) (z0 z1:Int) (φ:Bool×Int->Prop) (h :
 q39_.L2 x0 x1 z0 ((IntKind.wrap .i64 (z1+1))) φ):L3 x0 x1 z0 z1 φ:=
 mIn <|
 mFin 5 h
theorem enter (x0:api_Table) (x1:api_MVD) (φ:Bool×Int->Prop) (h :
 ∃ r1:Int,q35_.C x0 r1 /\
 (if r1=0 then
 ∃ r2:Bool,q31_.C ((x0.Attrs.length:Int)) ((bOr .u32 x1.Lhs x1.Rhs)) r2 /\
 (if r2=true then
 q39_.L1 x0 x1 0 φ
 else
 φ ((false,1)))
 else
 φ ((false,r1)))):∃ r,φ r/\C x0 x1 r:=
 mEnt (fd:=Tryd.f28) (body:=B) (V:=W) (res:=res) <|
 mCal 8 h (fun _ h=>h) fun r1 _ h=>
 Ak3 4 h Ai5 Ai4 (fun h=>
 mRet 7 h) fun h=>
 mLen 6 eS x0.Attrs <|
 Acg 9 h (fun _ h=>h) (fun _ h=>
 mFin 15 h) fun _ h=>
 mRet 7 h
end q39_
namespace q19_
end q19_
namespace q57_
end q57_
namespace q32_
end q32_
namespace q24_
end q24_
namespace q52_
end q52_
namespace q47_
end q47_
namespace q61_
end q61_
namespace q48_
def res (r:Int):D×List D:=(.lit (.int .i64 r),[])
def C (x0 x1 r:Int):Prop:=Ret env 71 [.lit (.int .u32 x0),.lit (.int .u32 x1)] (res r).1 (res r).2
end q48_
namespace q5_
end q5_
namespace q11_
end q11_
namespace q12_
end q12_
namespace q1_
end q1_
namespace q10_
end q10_
namespace q3_
end q3_
namespace q7_
end q7_
namespace q14_
end q14_
namespace q15_
end q15_
namespace q4_
end q4_
namespace q8_
end q8_
namespace q49_
end q49_
namespace q53_
end q53_
namespace q20_
end q20_
namespace q22_
end q22_
namespace q6_
end q6_
namespace q13_
end q13_
namespace q9_
end q9_
namespace q16_
end q16_
namespace q54_
end q54_
namespace q63_
noncomputable def B:Code:=(Tryd.f44.body).getD .skip
def W:List Nat:=[0,1,2,4,5,7,8,9,11,12,13,14]
def res (r:ByteArray):D×List D:=(.lit (.string r),[])
def C (x0:api_Row) (x1:Int) (r:ByteArray):Prop:=Ret env 44 [.agg [.lit (.int .i64 x0.ID),.sl (x0.Values.map Aa1)],.lit (.int .u32 x1)] (res r).1 (res r).2
def L1 (x0:api_Row) (z0:ByteArray) (r1:List Int) (z1:Int) (φ:ByteArray->Prop):Prop:=Pt env 44 W B [1,1,0,1,0] [(0,.agg [.lit (.int .i64 x0.ID),.sl (x0.Values.map Aa1)]),(2,.box [.lit (.int .i64 x0.ID),.sl (x0.Values.map Aa1)]),(5,.lit (.string z0)),(11,.own (r1.map (eI .i64))),(12,.lit (.int .i64 ((r1.length:Int)))),(13,.lit (.int .i64 z1))] (Lv env 44 Tryd.f44 2 res φ)
theorem L1_step (x0:api_Row) (z0:ByteArray) (r1:List Int) (z1:Int) (φ:ByteArray->Prop) (h :
 (if z1<(r1.length:Int) then
 ∃ a2,lget r1 z1=some a2 /\
 ∃ a4,lget x0.Values a2=some a4 /\
 ∃ r6:ByteArray×Int,q62_.C a4 r6 /\
 (z0).size+(r6.1).size<=9223372036854775807 /\
 q63_.L1 x0 ((z0++r6.1)) r1 ((IntKind.wrap .i64 (z1+1))) φ
 else
 φ z0)):L1 x0 z0 r1 z1 φ:=
 mIn <|
 mAsk 2 h dT dF (fun h=>
 mIy 4 (eI .i64) h fun a2 h3 h=>
 mLd 0 (eI .i64) h3 <|
 mIx 6 Aa1 h fun a4 h5 h=>
 mCal 1 h (fun _ h=>h) (hf:=(fun _=>Ae2 (Anq (Af3 rfl (Af3 rfl Ans))) rfl)) fun r6 _ h=>
 h.elim fun h7 h=>
 mBi 9 (Bai (t:=9) h7) <|
 mFin 6 h) fun h=>
 mRet 7 h
theorem enter (x0:api_Row) (x1:Int) (φ:ByteArray->Prop) (h :
 ∃ r1:List Int,q43_.C x1 r1 /\
 q63_.L1 x0 ((⟨#[]⟩:ByteArray)) r1 0 φ):∃ r,φ r/\C x0 x1 r:=
 mEnt (fd:=Tryd.f44) (body:=B) (V:=W) (res:=res) <|
 mCal 9 h (fun _ h=>h) (hf:=(fun _=>Ae2 (Am9 (e:=(eI .i64)) (fun _=>rfl)) rfl)) fun r1 _ h=>
 mLen 0 (eI .i64) r1 <|
 mFin 2 h
end q63_
namespace q60_
def res (r:Bool×Int):D×List D:=(.tup [.lit (.bool r.1),.lit (.int .i64 r.2)],[])
def C (x0:api_Table) (x1:api_MVD) (r:Bool×Int):Prop:=Ret env 27 [.agg [.lit (.string x0.Name),.sl (x0.Attrs.map eS),.sl (x0.Rows.map Aa2)],.agg [.lit (.int .u32 x1.Lhs),.lit (.int .u32 x1.Rhs)]] (res r).1 (res r).2
end q60_
namespace q40_
def res (r:Bool):D×List D:=(.lit (.bool r),[])
def C  (r:Bool):Prop:=Ret env 10 [] (res r).1 (res r).2
end q40_
end Go.Own
namespace Go.Own
set_option maxRecDepth 1000000
theorem q40_.run:Ab2 env 400 10 []=some (.lit (.bool true),[]):=by kernel_rfl
theorem q40_.spec:q40_.C true:=Ret.of q40_.run
end Go.Own
namespace Go.Own
open Go.Proofs D
set_option maxRecDepth 100000
set_option maxHeartbeats 4000000
namespace drosslaw13_BasisHolds
noncomputable def B:Code:=(Tryd.f7.body).getD .skip
def W:List Nat:=[0,1,2,3,4,5,6,7,8,22]
def res (r:Bool):D×List D:=(.lit (.bool r),[])
def C (x0:api_Table) (x1:api_MVD) (r:Bool):Prop:=Ret env 7 [.agg [.lit (.string x0.Name),.sl (x0.Attrs.map eS),.sl (x0.Rows.map Aa2)],.agg [.lit (.int .u32 x1.Lhs),.lit (.int .u32 x1.Rhs)]] (res r).1 (res r).2
def L1  (φ:Bool->Prop):Prop:=Pt env 7 W B [1,0,1,0,0] [] (Lv env 7 Tryd.f7 2 res φ)
theorem L1_step  (φ:Bool->Prop) (h :
 ∃ r6:Bool,q40_.C  r6 /\
 φ r6):L1  φ:=
 mIn <|
 mCal 1 h (fun _ h=>h) fun r6 _ h=>
 mRet 2 h
theorem enter (x0:api_Table) (x1:api_MVD) (φ:Bool->Prop) (h :
 ∃ r3:Bool,q40_.C  r3 /\
 (if r3=true then
 (if 12<(x0.Rows.length:Int) then
 drosslaw13_BasisHolds.L1  φ
 else
 (if 8<(x0.Attrs.length:Int) then
 drosslaw13_BasisHolds.L1  φ
 else
 ∃ r4:Bool×Int,q60_.C x0 x1 r4 /\
 ∃ r5:Bool×Int,q39_.C x0 x1 r5 /\
 (if r4.1=r5.1 then
 φ ((r4.2 == r5.2))
 else
 φ false)))
 else
 drosslaw13_BasisHolds.L1  φ)):∃ r,φ r/\C x0 x1 r:=
 mEnt (fd:=Tryd.f7) (body:=B) (V:=W) (res:=res) <|
 Acg 6 h (fun _ h=>h) (fun _ h=>
 mLen 4 Aa2 x0.Rows <|
 mAsk 0 h dT dF (fun h=>
 mFin 9 h) fun h=>
 mLen 4 eS x0.Attrs <|
 mAsk 0 h dT dF (fun h=>
 mFin 3 h) fun h=>
 mCal 7 h (fun _ h=>h) (hf:=(fun _=>Ae2 (Anq (Af3 rfl (Af3 rfl Ans))) rfl)) fun r4 _ h=>
 mCal 9 h (fun _ h=>h) (hf:=(fun _=>Ae2 (Anq (Af3 rfl (Af3 rfl Ans))) rfl)) fun r5 _ h=>
 mAsk 9 h Bbv Bbu (fun h=>
 mRet 7 h) fun h=>
 mRet 7 h) fun _ h=>
 mFin 15 h
end drosslaw13_BasisHolds
end Go.Own
