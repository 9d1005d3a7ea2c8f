/- What the functions answer. No conditions. -/
import Derived.Test.YtockohmmmlhhfacGreatDoorBase5
import Derived.Test.YtockohmmmlhhfacGreatDoorOwn21
import Derived.Test.YtockohmmmlhhfacGreatDoorOwn22
set_option linter.all false
namespace Go.Own
open Go.Proofs D
set_option maxRecDepth 100000
set_option maxHeartbeats 4000000
namespace q19_
noncomputable def B:Code:=(Tryz.f90.body).getD .skip
def W:List Nat:=[0,1,4,5,7,8,9,16]
def res (r:Int):D×List D:=(.lit (.int .i64 r),[])
def C (x0:List ByteArray) (x1:ByteArray) (r:Int):Prop:=Ret env 90 [.sl (x0.map eS),.lit (.string x1)] (res r).1 (res r).2
def L1 (x0:List ByteArray) (x1:ByteArray) (z0:Int) (φ:Int->Prop):Prop:=Pt env 90 W B [1,0,1,0] [(0,.sl (x0.map eS)),(1,.lit (.string x1)),(7,.lit (.int .i64 ((x0.length:Int)))),(8,.lit (.int .i64 z0))] (Lv env 90 Tryz.f90 2 res φ)
theorem L1_step (x0:List ByteArray) (x1:ByteArray) (z0:Int) (φ:Int->Prop) (h :
 (if z0<(x0.length:Int) then
 ∃ a1,lget x0 z0=some a1 /\
 (if x1.toList=a1.toList then
 φ z0
 else
 q19_.L1 x0 x1 ((IntKind.wrap .i64 (z0+1))) φ)
 else
 φ ((-1)))):L1 x0 x1 z0 φ:=
 mIn <|
 mAsk 2 h dT dF (fun h=>
 mIx 11 eS h fun a1 h2 h=>
 mAsk 1 h Ay1 Ay0 (fun h=>
 mRet 6 h) fun h=>
 mFin 7 h) fun h=>
 mRet 6 h
theorem enter (x0:List ByteArray) (x1:ByteArray) (φ:Int->Prop) (h :
 q19_.L1 x0 x1 0 φ):∃ r,φ r/\C x0 x1 r:=
 mEnt (fd:=Tryz.f90) (body:=B) (V:=W) (res:=res) <|
 mLen 5 eS x0 <|
 mFin 2 h
end q19_
namespace q17_
noncomputable def B:Code:=(Tryz.f64.body).getD .skip
def W:List Nat:=[0,1,4]
def res (r:Bool):D×List D:=(.lit (.bool r),[])
def C (x0:List ByteArray) (x1:ByteArray) (r:Bool):Prop:=Ret env 64 [.sl (x0.map eS),.lit (.string x1)] (res r).1 (res r).2
theorem enter (x0:List ByteArray) (x1:ByteArray) (φ:Bool->Prop) (h :
 ∃ r1:Int,q19_.C x0 x1 r1 /\
 φ ((decide (0<=r1)))):∃ r,φ r/\C x0 x1 r:=
 mEnt (fd:=Tryz.f64) (body:=B) (V:=W) (res:=res) <|
 mCal 6 h (fun _ h=>h) fun r1 _ h=>
 mRet 3 h
end q17_
namespace q67_
noncomputable def B:Code:=(Tryz.f63.body).getD .skip
def W:List Nat:=[0,2,3,4,5,16,18,19,20,56]
def res (r:Bool):D×List D:=(.lit (.bool r),[])
def C (x0:ByteArray) (r:Bool):Prop:=Ret env 63 [.lit (.string x0)] (res r).1 (res r).2
def L1 (x0:ByteArray) (z0:Int) (φ:Bool->Prop):Prop:=Pt env 63 W B [1,1,0,1,0] [(0,.lit (.string x0)),(18,.lit (.int .i64 ((Afc x0)))),(19,.lit (.int .i64 z0))] (Lv env 63 Tryz.f63 1 res φ)
def L2 (x0:ByteArray) (z0 z1:Int) (z2:Bool) (φ:Bool->Prop):Prop:=Pt env 63 W B [1,1,0,1,0,0,1,1,0,0,1,1,1,0] [(0,.lit (.string x0)),(3,.lit (.int .i64 z0)),(4,.lit (.int .u8 z1)),(5,.lit (.bool z2)),(18,.lit (.int .i64 ((Afc x0)))),(19,.lit (.int .i64 z0))] (Lv env 63 Tryz.f63 1 res φ)
def L3 (x0:ByteArray) (z0:Int) (φ:Bool->Prop):Prop:=Pt env 63 W B [1,1,0,1,0,0,1,1,1] [(0,.lit (.string x0)),(18,.lit (.int .i64 ((Afc x0)))),(19,.lit (.int .i64 z0))] (Lv env 63 Tryz.f63 1 res φ)
theorem L1_step (x0:ByteArray) (z0:Int) (φ:Bool->Prop) (h :
 (if z0<(Afc x0) then
 ∃ b1,((0:Int)<=z0/\x0[(z0).toNat]? = some b1) /\
 (if 97<=(u8i b1) then
 (if (u8i b1)<=122 then
 q67_.L2 x0 z0 ((u8i b1)) true φ
 else
 (if 65<=(u8i b1) then
 (if (u8i b1)<=90 then
 q67_.L2 x0 z0 ((u8i b1)) true φ
 else
 q67_.L2 x0 z0 ((u8i b1)) (((u8i b1) == 95)) φ)
 else
 q67_.L2 x0 z0 ((u8i b1)) (((u8i b1) == 95)) φ))
 else
 (if 65<=(u8i b1) then
 (if (u8i b1)<=90 then
 q67_.L2 x0 z0 ((u8i b1)) true φ
 else
 q67_.L2 x0 z0 ((u8i b1)) (((u8i b1) == 95)) φ)
 else
 q67_.L2 x0 z0 ((u8i b1)) (((u8i b1) == 95)) φ))
 else
 φ true)):L1 x0 z0 φ:=
 mIn <|
 mAsk 2 h dT dF (fun h=>
 mSt 10 h fun b1 h=>
 mAsk 4 h dT dF (fun h=>
 mAsk 2 h dT dF (fun h=>
 mFin 15 h) fun h=>
 mAsk 3 h dT dF (fun h=>
 mAsk 2 h dT dF (fun h=>
 mFin 8 h) fun h=>
 mFin 8 h) fun h=>
 mFin 11 h) fun h=>
 mAsk 6 h dT dF (fun h=>
 mAsk 2 h dT dF (fun h=>
 mFin 8 h) fun h=>
 mFin 8 h) fun h=>
 mFin 11 h) fun h=>
 mRet 6 h
theorem L2_step (x0:ByteArray) (z0 z1:Int) (z2:Bool) (φ:Bool->Prop) (h :
 (if z2=true then
 q67_.L3 x0 z0 φ
 else
 (if z0=0 then
 φ false
 else
 (if z1<48 then
 φ false
 else
 (if 57<z1 then
 φ false
 else
 q67_.L3 x0 z0 φ))))):L2 x0 z0 z1 z2 φ:=
 mIn <|
 mAsk 1 h id fls (fun h=>
 mFin 16 h) fun h=>
 mAsk 3 h Aay Aax (fun h=>
 mRet 14 h) fun h=>
 mAsk 2 h dT dF (fun h=>
 mRet 11 h) fun h=>
 mAsk 3 h dT dF (fun h=>
 mRet 7 h) fun h=>
 mFin 5 h
theorem L3_step (x0:ByteArray) (z0:Int) (φ:Bool->Prop) (h :
 q67_.L1 x0 ((IntKind.wrap .i64 (z0+1))) φ):L3 x0 z0 φ:=
 mIn <|
 mFin 4 h
theorem enter (x0:ByteArray) (φ:Bool->Prop) (h :
 (if x0.toList=((⟨#[]⟩:ByteArray)).toList then
 φ false
 else
 (if 24<(Afc x0) then
 φ false
 else
 (if x0.toList=((⟨#[110,117,108,108]⟩:ByteArray)).toList then
 φ false
 else
 q67_.L1 x0 0 φ)))):∃ r,φ r/\C x0 r:=
 mEnt (fd:=Tryz.f63) (body:=B) (V:=W) (res:=res) <|
 mAsk 5 h Ay1 Ay0 (fun h=>
 mRet 14 h) fun h=>
 mAsk 3 h dT dF (fun h=>
 mRet 10 h) fun h=>
 mAsk 3 h Ay1 Ay0 (fun h=>
 mRet 6 h) fun h=>
 mFin 9 h
end q67_
namespace q72_
noncomputable def B:Code:=(Tryz.f93.body).getD .skip
def W:List Nat:=[0,1,2,4,5,15,20,31]
def res (r:Bool):D×List D:=(.lit (.bool r),[])
def C (x0:api_Value) (r:Bool):Prop:=Ret env 93 [.agg [.lit (.int .i64 x0.Kind),.lit (.int .i64 x0.Num),.lit (.string x0.Str)]] (res r).1 (res r).2
theorem enter (x0:api_Value) (φ:Bool->Prop) (h :
 (if x0.Kind=0 then
 (if x0.Num=0 then
 φ ((x0.Str.toList == ((⟨#[]⟩:ByteArray)).toList))
 else
 φ false)
 else
 (if x0.Kind=1 then
 φ ((x0.Str.toList == ((⟨#[]⟩:ByteArray)).toList))
 else
 (if x0.Kind=2 then
 (if x0.Num=0 then
 φ ((decide ((Afc x0.Str)<=200)))
 else
 φ false)
 else
 (if x0.Kind=3 then
 (if 1<=x0.Num then
 φ ((x0.Str.toList == ((⟨#[]⟩:ByteArray)).toList))
 else
 φ false)
 else
 φ false))))):∃ r,φ r/\C x0 r:=
 mEnt (fd:=Tryz.f93) (body:=B) (V:=W) (res:=res) <|
 mCon 12 h Aay Aax (fun h=>
 mAsk 3 h Aay Aax (fun h=>
 mRet 7 h) fun h=>
 mRet 7 h) fun h=>
 mCon 4 h Aay Aax (fun h=>
 mRet 6 h) fun h=>
 mCon 4 h Aay Aax (fun h=>
 mAsk 3 h Aay Aax (fun h=>
 mRet 8 h) fun h=>
 mRet 8 h) fun h=>
 mCon 4 h Aay Aax (fun h=>
 mAsk 3 h dT dF (fun h=>
 mRet 7 h) fun h=>
 mRet 7 h) fun h=>
 mRet 4 h
end q72_
namespace q30_
noncomputable def B:Code:=(Tryz.f92.body).getD .skip
def W:List Nat:=[0,1,2]
def res (r:Bool):D×List D:=(.lit (.bool r),[])
def C (x0:api_Value) (r:Bool):Prop:=Ret env 92 [.agg [.lit (.int .i64 x0.Kind),.lit (.int .i64 x0.Num),.lit (.string x0.Str)]] (res r).1 (res r).2
theorem enter (x0:api_Value) (φ:Bool->Prop) (h :
 ∃ r1:Bool,q72_.C x0 r1 /\
 φ ((not r1))):∃ r,φ r/\C x0 r:=
 mEnt (fd:=Tryz.f92) (body:=B) (V:=W) (res:=res) <|
 mCal 6 h (fun _ h=>h) fun r1 _ h=>
 mRet 3 h
end q30_
namespace q1_
noncomputable def B:Code:=(Tryz.f118.body).getD .skip
def W:List Nat:=[0,1,4,5,7,8,9,16]
def res (r:Int):D×List D:=(.lit (.int .i64 r),[])
def C (x0:List api_Value) (r:Int):Prop:=Ret env 118 [.sl (x0.map Aa2),.fn 92 []] (res r).1 (res r).2
def L1 (x0:List api_Value) (z0:Int) (φ:Int->Prop):Prop:=Pt env 118 W B [1,0,1,0] [(0,.sl (x0.map Aa2)),(1,.fn 92 []),(7,.lit (.int .i64 ((x0.length:Int)))),(8,.lit (.int .i64 z0))] (Lv env 118 Tryz.f118 2 res φ)
theorem L1_step (x0:List api_Value) (z0:Int) (φ:Int->Prop) (h :
 (if z0<(x0.length:Int) then
 ∃ a1,lget x0 z0=some a1 /\
 ∃ r3:Bool,q30_.C a1 r3 /\
 (if r3=true then
 φ z0
 else
 q1_.L1 x0 ((IntKind.wrap .i64 (z0+1))) φ)
 else
 φ ((-1)))):L1 x0 z0 φ:=
 mIn <|
 mAsk 2 h dT dF (fun h=>
 mIx 11 Aa2 h fun a1 h2 h=>
 Abr 1 h (fun _ h=>h) (fun _ h=>
 mRet 6 h) fun _ h=>
 mFin 7 h) fun h=>
 mRet 6 h
theorem enter (x0:List api_Value) (φ:Int->Prop) (h :
 q1_.L1 x0 0 φ):∃ r,φ r/\C x0 r:=
 mEnt (fd:=Tryz.f118) (body:=B) (V:=W) (res:=res) <|
 mLen 5 Aa2 x0 <|
 mFin 2 h
end q1_
namespace q0_
noncomputable def B:Code:=(Tryz.f91.body).getD .skip
def W:List Nat:=[0,1,4]
def res (r:Bool):D×List D:=(.lit (.bool r),[])
def C (x0:List api_Value) (r:Bool):Prop:=Ret env 91 [.sl (x0.map Aa2),.fn 92 []] (res r).1 (res r).2
theorem enter (x0:List api_Value) (φ:Bool->Prop) (h :
 ∃ r1:Int,q1_.C x0 r1 /\
 φ ((decide (0<=r1)))):∃ r,φ r/\C x0 r:=
 mEnt (fd:=Tryz.f91) (body:=B) (V:=W) (res:=res) <|
 mCal 6 h (fun _ h=>h) fun r1 _ h=>
 mRet 3 h
end q0_
namespace q37_
noncomputable def B:Code:=(Tryz.f65.body).getD .skip
def W:List Nat:=[0,2]
def res (r:Bool):D×List D:=(.lit (.bool r),[])
def C (x0:List api_Value) (r:Bool):Prop:=Ret env 65 [.sl (x0.map Aa2)] (res r).1 (res r).2
theorem enter (x0:List api_Value) (φ:Bool->Prop) (h :
 ∃ r1:Bool,q0_.C x0 r1 /\
 φ ((not r1))):∃ r,φ r/\C x0 r:=
 mEnt (fd:=Tryz.f65) (body:=B) (V:=W) (res:=res) <|
 mCal 5 h (fun _ h=>h) fun r1 _ h=>
 mRet 3 h
end q37_
namespace q73_
noncomputable def B:Code:=(Tryz.f32.body).getD .skip
def W:List Nat:=[0,1,2,3,4,5,7,11,21,23,24,25,26,40,43,44,45,46,49,54,62]
def res (r:Int):D×List D:=(.lit (.int .i64 r),[])
def C (x0:api_Table) (r:Int):Prop:=Ret env 32 [.agg [.lit (.string x0.Name),.sl (x0.Attrs.map eS),.sl (x0.Rows.map Aa1)]] (res r).1 (res r).2
def L1 (x0:api_Table) (z0:Int) (φ:Int->Prop):Prop:=Pt env 32 W B [1,1,1,0,1,0] [(0,.agg [.lit (.string x0.Name),.sl (x0.Attrs.map eS),.sl (x0.Rows.map Aa1)]),(1,.box [.lit (.string x0.Name),.sl (x0.Attrs.map eS),.sl (x0.Rows.map Aa1)]),(23,.sl (x0.Attrs.map eS)),(24,.lit (.int .i64 ((x0.Attrs.length:Int)))),(25,.lit (.int .i64 z0))] (Lv env 32 Tryz.f32 1 res φ)
def L2 (x0:api_Table) (z0 z1:Int) (φ:Int->Prop):Prop:=Pt env 32 W B [1,1,1,1,1,0,1,0] [(0,.agg [.lit (.string x0.Name),.sl (x0.Attrs.map eS),.sl (x0.Rows.map Aa1)]),(1,.box [.lit (.string x0.Name),.sl (x0.Attrs.map eS),.sl (x0.Rows.map Aa1)]),(5,.lit (.int .i64 z0)),(43,.sl (x0.Rows.map Aa1)),(44,.lit (.int .i64 ((x0.Rows.length:Int)))),(45,.lit (.int .i64 z1))] (Lv env 32 Tryz.f32 1 res φ)
theorem L1_step (x0:api_Table) (z0:Int) (φ:Int->Prop) (h :
 (if z0<(x0.Attrs.length:Int) then
 ∃ a2,lget x0.Attrs z0=some a2 /\
 ∃ r4:Bool,q67_.C a2 r4 /\
 (if r4=true then
 0<=z0 /\
 (0<=z0.toNat/\z0.toNat<=x0.Attrs.length) /\
 ∃ r7:Bool,q17_.C ((List.take (z0.toNat-0) x0.Attrs)) a2 r7 /\
 (if r7=true then
 φ 1
 else
 q73_.L1 x0 ((IntKind.wrap .i64 (z0+1))) φ)
 else
 φ 1)
 else
 q73_.L2 x0 0 0 φ)):L1 x0 z0 φ:=
 mIn <|
 mAsk 2 h dT dF (fun h=>
 mIx 5 eS h fun a2 h3 h=>
 Abr 6 h (fun _ h=>h) (fun _ h=>
 h.elim fun h5 h=>
 h.elim fun h6 h=>
 mVl 5 (Aet (t:=28) (x:=(.tmp 35)) (lo:=none) (hi:=(some (.tmp 36))) (lo':=none) (hi':=some (z0).toNat) (e:=eS) (l:=x0.Attrs) (et:=9) (k:=1) (by kernel_rfl) (by kernel_rfl) Acu (Acv (i:=z0) (q:=.i64) (by kernel_rfl) h5) (by kernel_rfl) (by kernel_rfl) (fun _=>rfl) (by kernel_rfl) h6.1 h6.2) <|
 Abr 1 h (fun _ h=>h) (fun _ h=>
 mRet 6 h) fun _ h=>
 mFin 8 h) fun _ h=>
 mRet 14 h) fun h=>
 mLen 9 Aa1 x0.Rows <|
 mFin 2 h
theorem L2_step (x0:api_Table) (z0 z1:Int) (φ:Int->Prop) (h :
 (if z1<(x0.Rows.length:Int) then
 ∃ a8,lget x0.Rows z1=some a8 /\
 (if a8.ID<=z0 then
 φ 1
 else
 (if (a8.Values.length:Int)=(x0.Attrs.length:Int) then
 ∃ r10:Bool,q37_.C a8.Values r10 /\
 (if r10=true then
 q73_.L2 x0 a8.ID ((IntKind.wrap .i64 (z1+1))) φ
 else
 φ 1)
 else
 φ 6))
 else
 φ 0)):L2 x0 z0 z1 φ:=
 mIn <|
 mAsk 2 h dT dF (fun h=>
 mIx 4 Aa1 h fun a8 h9 h=>
 mCon 11 h dT dF (fun h=>
 mRet 3 h) fun h=>
 mLen 3 Aa2 a8.Values <|
 mLen 2 eS x0.Attrs <|
 Axj 3 h Acf Ace (fun h=>
 mRet 3 h) fun h=>
 mCal 3 h (fun _ h=>h) fun r10 _ h=>
 Axj 3 h (fun h=>fls (Bh4 h)) (fun h=>id (Bh3 h)) (fun h=>
 mRet 3 h) fun h=>
 mFin 10 h) fun h=>
 mRet 6 h
theorem enter (x0:api_Table) (φ:Int->Prop) (h :
 ∃ r1:Bool,q67_.C x0.Name r1 /\
 (if r1=true then
 (if 16<(x0.Attrs.length:Int) then
 φ 3
 else
 (if 1000<(x0.Rows.length:Int) then
 φ 3
 else
 q73_.L1 x0 0 φ))
 else
 φ 1)):∃ r,φ r/\C x0 r:=
 mEnt (fd:=Tryz.f32) (body:=B) (V:=W) (res:=res) <|
 Abr 7 h (fun _ h=>h) (fun _ h=>
 mLen 7 eS x0.Attrs <|
 mAsk 0 h dT dF (fun h=>
 mRet 11 h) fun h=>
 mLen 3 Aa1 x0.Rows <|
 mAsk 0 h dT dF (fun h=>
 mRet 6 h) fun h=>
 mLen 7 eS x0.Attrs <|
 mFin 2 h) fun _ h=>
 mRet 6 h
end q73_
namespace q46_
noncomputable def B:Code:=(Tryz.f72.body).getD .skip
def W:List Nat:=[0,2,3,5]
def res (r:List Int):D×List D:=(.own (r.map (eI .i64)),[])
def C (x0:Int) (r:List Int):Prop:=Ret env 72 [.lit (.int .u32 x0)] (res r).1 (res r).2
def L1 (x0:Int) (z0:List Int) (φ:List Int->Prop):Prop:=Pt env 72 W B [1,1,0,0] [(0,.lit (.int .u32 x0)),(3,.own (z0.map (eI .i64)))] (Lv env 72 Tryz.f72 1 res φ)
theorem L1_step (x0:Int) (z0:List Int) (φ:List Int->Prop) (h :
 (if x0=0 then
 φ z0
 else
 (0<=x0/\x0<4294967296) /\
 (z0.length+1)*8<=140737488355328 /\
 q46_.L1 ((bAnd .u32 x0 (IntKind.wrap .u32 (x0-1)))) ((z0++[(tz32 x0)])) φ)):L1 x0 z0 φ:=
 mIn <|
 Acq 3 h Acf Ace (fun h=>
 h.elim fun h1 h=>
 An5 6 (show Ret env 97 [.lit (.int .u32 x0)] (.lit (.int .i64 ((tz32 x0)))) [] from Ba5 (by kernel_rfl) h1) <|
 mApp 1 (eI .i64) z0 ([(tz32 x0)]) h fun h=>
 mFin 9 h) fun h=>
 mRet 7 h
theorem enter (x0:Int) (φ:List Int->Prop) (h :
 q46_.L1 x0 ([]) φ):∃ r,φ r/\C x0 r:=
 mEnt (fd:=Tryz.f72) (body:=B) (V:=W) (res:=res) <|
 mFin 6 h
end q46_
namespace q68_
noncomputable def B:Code:=(Tryz.f98.body).getD .skip
def W:List Nat:=[0,1,4,5,6,11]
def res (r:List Int):D×List D:=(.own (r.map (eI .u8)),[])
def C (x1:Int) (k0_0 r:List Int):Prop:=Ret env 98 [.own (k0_0.map (eI .u8)),.lit (.int .i64 x1)] (res r).1 (res r).2
def L1 (k0_0:List Int) (z0 z1:Int) (φ:List Int->Prop):Prop:=Pt env 98 W B [1,1,0,1,0] [(0,.own (k0_0.map (eI .u8))),(5,.lit (.int .u64 z0)),(6,.lit (.int .i64 z1))] (Lv env 98 Tryz.f98 2 res φ)
theorem L1_step (k0_0:List Int) (z0 z1:Int) (φ:List Int->Prop) (h :
 (if 0<=z1 then
 0<=z1 /\
 (k0_0.length+1)*1<=140737488355328 /\
 q68_.L1 ((k0_0++[(IntKind.wrap .u8 (shrw .u64 z0 z1))])) z0 ((IntKind.wrap .i64 (z1-8))) φ
 else
 φ k0_0)):L1 k0_0 z0 z1 φ:=
 mIn <|
 mAsk 3 h dT dF (fun h=>
 h.elim fun h1 h=>
 mBi 7 (Ai5 (t:=128) (q:=.u64) (q':=.i64) (i1:=z0) h1) <|
 mApp 2 (eI .u8) k0_0 ([(IntKind.wrap .u8 (shrw .u64 z0 z1))]) h fun h=>
 mFin 7 h) fun h=>
 mRet 7 h
theorem enter (x1:Int) (k0_0:List Int) (φ:List Int->Prop) (h :
 q68_.L1 k0_0 ((bXor .u64 (IntKind.wrap .u64 x1) 9223372036854775808)) 56 φ):∃ r,φ r/\C x1 k0_0 r:=
 mEnt (fd:=Tryz.f98) (body:=B) (V:=W) (res:=res) <|
 mFin 12 h
end q68_
namespace q75_
noncomputable def B:Code:=(Tryz.f73.body).getD .skip
def W:List Nat:=[0,1,2,3,4,5,8,14,15,22,26,27,28,41]
def res (r:ByteArray×Int):D×List D:=(.tup [.lit (.string r.1),.lit (.int .i64 r.2)],[])
def C (x0:api_Value) (r:ByteArray×Int):Prop:=Ret env 73 [.agg [.lit (.int .i64 x0.Kind),.lit (.int .i64 x0.Num),.lit (.string x0.Str)]] (res r).1 (res r).2
def L2 (x0:api_Value) (z0:Bool) (φ:ByteArray×Int->Prop):Prop:=Pt env 73 W B [1,1,1,0,1,0,1,0] [(0,.agg [.lit (.int .i64 x0.Kind),.lit (.int .i64 x0.Num),.lit (.string x0.Str)]),(1,.box [.lit (.int .i64 x0.Kind),.lit (.int .i64 x0.Num),.lit (.string x0.Str)]),(4,.own (([(IntKind.wrap .u8 x0.Kind)]).map (eI .u8))),(14,.lit (.int .i64 x0.Kind)),(15,.lit (.bool z0))] (Lv env 73 Tryz.f73 1 res φ)
def L3 (x0:api_Value) (φ:ByteArray×Int->Prop):Prop:=Pt env 73 W B [1,1,1,0,1,0,1,1,0] [(0,.agg [.lit (.int .i64 x0.Kind),.lit (.int .i64 x0.Num),.lit (.string x0.Str)]),(1,.box [.lit (.int .i64 x0.Kind),.lit (.int .i64 x0.Num),.lit (.string x0.Str)]),(4,.own (([(IntKind.wrap .u8 x0.Kind)]).map (eI .u8))),(14,.lit (.int .i64 x0.Kind))] (Lv env 73 Tryz.f73 1 res φ)
def L1 (x0:api_Value) (z0:List Int) (z1:Int) (φ:ByteArray×Int->Prop):Prop:=Pt env 73 W B [1,1,1,0,1,0,1,1,1,0,0,1,0] [(0,.agg [.lit (.int .i64 x0.Kind),.lit (.int .i64 x0.Num),.lit (.string x0.Str)]),(1,.box [.lit (.int .i64 x0.Kind),.lit (.int .i64 x0.Num),.lit (.string x0.Str)]),(4,.own (z0.map (eI .u8))),(26,.lit (.int .i64 ((Afc x0.Str)))),(27,.lit (.int .i64 z1))] (Lv env 73 Tryz.f73 1 res φ)
def L4 (x0:api_Value) (z0:List Int) (z1:Int) (φ:ByteArray×Int->Prop):Prop:=Pt env 73 W B [1,1,1,0,1,0,1,1,1,0,0,1,0,0,1,1,1] [(0,.agg [.lit (.int .i64 x0.Kind),.lit (.int .i64 x0.Num),.lit (.string x0.Str)]),(1,.box [.lit (.int .i64 x0.Kind),.lit (.int .i64 x0.Num),.lit (.string x0.Str)]),(4,.own (z0.map (eI .u8))),(26,.lit (.int .i64 ((Afc x0.Str)))),(27,.lit (.int .i64 z1))] (Lv env 73 Tryz.f73 1 res φ)
theorem L2_step (x0:api_Value) (z0:Bool) (φ:ByteArray×Int->Prop) (h :
 ∃ r2:List Int,q68_.C x0.Num ([(IntKind.wrap .u8 x0.Kind)]) r2 /\
 (∀ x∈r2,0<=x/\x<256) /\
 φ (((Aks r2),0))):L2 x0 z0 φ:=
 mIn <|
 mCal 4 h (fun _ h=>h) (hf:=(fun _=>Aau (Ab8 (e:=(eI .u8)) (fun _=>rfl)) rfl)) fun r2 _ h=>
 h.elim fun h3 h=>
 mVl 4 (Amn (s:=25) (t:=9) (et:=5) (x:=(.tmp 49)) (d:=.alias 4 []) (l:=r2) (by kernel_rfl) (by kernel_rfl) (Ag2 (by kernel_rfl)) (by kernel_rfl) (by kernel_rfl) (by kernel_rfl) h3) <|
 mRet 3 h
theorem L3_step (x0:api_Value) (φ:ByteArray×Int->Prop) (h :
 (if x0.Kind=2 then
 q75_.L1 x0 ([(IntKind.wrap .u8 x0.Kind)]) 0 φ
 else
 (∀ x∈([(IntKind.wrap .u8 x0.Kind)]),0<=x/\x<256) /\
 φ (((Aks [(IntKind.wrap .u8 x0.Kind)]),0)))):L3 x0 φ:=
 mIn <|
 mCon 4 h Aay Aax (fun h=>
 mFin 6 h) fun h=>
 h.elim fun h4 h=>
 mVl 3 (Amn (s:=25) (t:=9) (et:=5) (x:=(.tmp 49)) (d:=.alias 4 []) (l:=[(IntKind.wrap .u8 x0.Kind)]) (by kernel_rfl) (by kernel_rfl) (Ag2 (by kernel_rfl)) (by kernel_rfl) (by kernel_rfl) (by kernel_rfl) h4) <|
 mRet 3 h
theorem L1_step (x0:api_Value) (z0:List Int) (z1:Int) (φ:ByteArray×Int->Prop) (h :
 (if z1<(Afc x0.Str) then
 ∃ b5,((0:Int)<=z1/\x0.Str[(z1).toNat]? = some b5) /\
 (z0.length+1)*1<=140737488355328 /\
 ∃ b9,((0:Int)<=z1/\x0.Str[(z1).toNat]? = some b9) /\
 (if (u8i b9)=0 then
 (((z0++[(u8i b5)])).length+1)*1<=140737488355328 /\
 q75_.L4 x0 (((z0++[(u8i b5)])++[255])) z1 φ
 else
 q75_.L4 x0 ((z0++[(u8i b5)])) z1 φ)
 else
 (z0.length+2)*1<=140737488355328 /\
 (∀ x∈((z0++[0,1])),0<=x/\x<256) /\
 φ (((Aks (z0++[0,1])),0)))):L1 x0 z0 z1 φ:=
 mIn <|
 mAsk 2 h dT dF (fun h=>
 mSt 12 h fun b5 h=>
 mApp 1 (eI .u8) z0 ([(u8i b5)]) h fun h=>
 mSt 6 h fun b9 h=>
 mAsk 0 h Aay Aax (fun h=>
 mApp 5 (eI .u8) ((z0++[(u8i b5)])) ([255]) h fun h=>
 mFin 2 h) fun h=>
 mFin 3 h) fun h=>
 mApp 6 (eI .u8) z0 ([0,1]) h fun h=>
 h.elim fun h14 h=>
 mVl 4 (Amn (s:=25) (t:=9) (et:=5) (x:=(.tmp 49)) (d:=.alias 4 []) (l:=(z0++[0,1])) (by kernel_rfl) (by kernel_rfl) (Ag2 (by kernel_rfl)) (by kernel_rfl) (by kernel_rfl) (by kernel_rfl) h14) <|
 mRet 3 h
theorem L4_step (x0:api_Value) (z0:List Int) (z1:Int) (φ:ByteArray×Int->Prop) (h :
 q75_.L1 x0 z0 ((IntKind.wrap .i64 (z1+1))) φ):L4 x0 z0 z1 φ:=
 mIn <|
 mFin 4 h
theorem enter (x0:api_Value) (φ:ByteArray×Int->Prop) (h :
 ∃ r1:Bool,q72_.C x0 r1 /\
 (if r1=true then
 (if x0.Kind=1 then
 (if x0.Kind=1 then
 q75_.L2 x0 ((x0.Kind == 1)) φ
 else
 q75_.L3 x0 φ)
 else
 (if x0.Kind=3 then
 q75_.L2 x0 ((x0.Kind == 3)) φ
 else
 q75_.L3 x0 φ))
 else
 φ (((⟨#[]⟩:ByteArray),1)))):∃ r,φ r/\C x0 r:=
 mEnt (fd:=Tryz.f73) (body:=B) (V:=W) (res:=res) <|
 Abr 7 h (fun _ h=>h) (fun _ h=>
 mCon 19 h Aay Aax (fun h=>
 mCon 1 h Aay Aax (fun h=>
 mFin 0 h) fun h=>
 mFin 0 h) fun h=>
 mCon 4 h Aay Aax (fun h=>
 mFin 0 h) fun h=>
 mFin 0 h) fun _ h=>
 mRet 7 h
end q75_
namespace q58_
noncomputable def B:Code:=(Tryz.f87.body).getD .skip
def W:List Nat:=[0,2]
def res (r:Bool):D×List D:=(.lit (.bool r),[])
def C (x0:Int) (r:Bool):Prop:=Ret env 87 [.lit (.int .i64 x0)] (res r).1 (res r).2
theorem enter (x0:Int) (φ:Bool->Prop) (h :
 φ ((x0 != x0))):∃ r,φ r/\C x0 r:=
 mEnt (fd:=Tryz.f87) (body:=B) (V:=W) (res:=res) <|
 mRet 9 h
end q58_
namespace q47_
noncomputable def B:Code:=(Tryz.f60.body).getD .skip
def W:List Nat:=[0,1,4,5,6,11,12,13,16,19]
def res (r:Int):D×List D:=(.lit (.int .i64 r),[])
def C (x0 x1 r:Int):Prop:=Ret env 60 [.lit (.int .i64 x0),.lit (.int .i64 x1)] (res r).1 (res r).2
theorem enter (x0 x1:Int) (φ:Int->Prop) (h :
 ∃ r1:Bool,q58_.C x0 r1 /\
 ∃ r2:Bool,q58_.C x1 r2 /\
 (if r1=true then
 (if r2=true then
 φ 0
 else
 φ ((-1)))
 else
 (if r2=true then
 φ 1
 else
 (if x0<x1 then
 φ ((-1))
 else
 (if x1<x0 then
 φ 1
 else
 φ 0))))):∃ r,φ r/\C x0 x1 r:=
 mEnt (fd:=Tryz.f60) (body:=B) (V:=W) (res:=res) <|
 mCal 5 h (fun _ h=>h) fun r1 _ h=>
 mCal 4 h (fun _ h=>h) fun r2 _ h=>
 mAsk 3 h id fls (fun h=>
 mAsk 3 h id fls (fun h=>
 mRet 5 h) fun h=>
 mRet 6 h) fun h=>
 mAsk 4 h id fls (fun h=>
 mRet 5 h) fun h=>
 mAsk 6 h dT dF (fun h=>
 mRet 5 h) fun h=>
 mAsk 6 h dT dF (fun h=>
 mRet 5 h) fun h=>
 mRet 6 h
end q47_
namespace q48_
noncomputable def B:Code:=(Tryz.f88.body).getD .skip
def W:List Nat:=[0,2]
def res (r:Bool):D×List D:=(.lit (.bool r),[])
def C (x0:Int) (r:Bool):Prop:=Ret env 88 [.lit (.int .i64 x0)] (res r).1 (res r).2
theorem enter (x0:Int) (φ:Bool->Prop) (h :
 φ ((x0 != x0))):∃ r,φ r/\C x0 r:=
 mEnt (fd:=Tryz.f88) (body:=B) (V:=W) (res:=res) <|
 mRet 9 h
end q48_
namespace q38_
noncomputable def B:Code:=(Tryz.f61.body).getD .skip
def W:List Nat:=[0,1,4,5,6,11,12,13,16,19]
def res (r:Int):D×List D:=(.lit (.int .i64 r),[])
def C (x0 x1 r:Int):Prop:=Ret env 61 [.lit (.int .i64 x0),.lit (.int .i64 x1)] (res r).1 (res r).2
theorem enter (x0 x1:Int) (φ:Int->Prop) (h :
 ∃ r1:Bool,q48_.C x0 r1 /\
 ∃ r2:Bool,q48_.C x1 r2 /\
 (if r1=true then
 (if r2=true then
 φ 0
 else
 φ ((-1)))
 else
 (if r2=true then
 φ 1
 else
 (if x0<x1 then
 φ ((-1))
 else
 (if x1<x0 then
 φ 1
 else
 φ 0))))):∃ r,φ r/\C x0 x1 r:=
 mEnt (fd:=Tryz.f61) (body:=B) (V:=W) (res:=res) <|
 mCal 5 h (fun _ h=>h) fun r1 _ h=>
 mCal 4 h (fun _ h=>h) fun r2 _ h=>
 mAsk 3 h id fls (fun h=>
 mAsk 3 h id fls (fun h=>
 mRet 5 h) fun h=>
 mRet 6 h) fun h=>
 mAsk 4 h id fls (fun h=>
 mRet 5 h) fun h=>
 mAsk 6 h dT dF (fun h=>
 mRet 5 h) fun h=>
 mAsk 6 h dT dF (fun h=>
 mRet 5 h) fun h=>
 mRet 6 h
end q38_
namespace q74_
noncomputable def B:Code:=(Tryz.f59.body).getD .skip
def W:List Nat:=[0,2,3,5,6,7,8,9,14]
def res (r:Int):D×List D:=(.lit (.int .i64 r),[])
def C (x0:List Int) (r:Int):Prop:=Ret env 59 [.sl (x0.map (eI .i64))] (res r).1 (res r).2
def L1 (x0:List Int) (z0:Int) (φ:Int->Prop):Prop:=Pt env 59 W B [1,1,0,1,0] [(0,.sl (x0.map (eI .i64))),(3,.lit (.int .i64 0)),(6,.sl (x0.map (eI .i64))),(7,.lit (.int .i64 ((x0.length:Int)))),(8,.lit (.int .i64 z0))] (Lv env 59 Tryz.f59 1 res φ)
theorem L1_step (x0:List Int) (z0:Int) (φ:Int->Prop) (h :
 (if z0<(x0.length:Int) then
 ∃ a1,lget x0 z0=some a1 /\
 (if a1=0 then
 q74_.L1 x0 ((IntKind.wrap .i64 (z0+1))) φ
 else
 φ a1)
 else
 φ 0)):L1 x0 z0 φ:=
 mIn <|
 mAsk 2 h dT dF (fun h=>
 mIx 4 (eI .i64) h fun a1 h2 h=>
 Acq 6 h Acf Ace (fun h=>
 mRet 6 h) fun h=>
 mFin 7 h) fun h=>
 mRet 7 h
theorem enter (x0:List Int) (φ:Int->Prop) (h :
 q74_.L1 x0 0 φ):∃ r,φ r/\C x0 r:=
 mEnt (fd:=Tryz.f59) (body:=B) (V:=W) (res:=res) <|
 mLen 8 (eI .i64) x0 <|
 mFin 2 h
end q74_
namespace q18_
noncomputable def B:Code:=(Tryz.f89.body).getD .skip
def W:List Nat:=[0,1,4]
def res (r:Int):D×List D:=(.lit (.int .i64 r),[])
def C (x0 x1:ByteArray) (r:Int):Prop:=Ret env 89 [.lit (.string x0),.lit (.string x1)] (res r).1 (res r).2
theorem enter (x0 x1:ByteArray) (φ:Int->Prop) (h :
 φ ((bcmp x0 x1))):∃ r,φ r/\C x0 x1 r:=
 mEnt (fd:=Tryz.f89) (body:=B) (V:=W) (res:=res) <|
 An5 6 (show Ret env 117 [.lit (.string x0),.lit (.string x1)] (.lit (.int .i64 ((bcmp x0 x1)))) [] from Bdp (by kernel_rfl)) <|
 mRet 2 h
end q18_
namespace q49_
noncomputable def B:Code:=(Tryz.f62.body).getD .skip
def W:List Nat:=[0,1,4]
def res (r:Int):D×List D:=(.lit (.int .i64 r),[])
def C (x0 x1:ByteArray) (r:Int):Prop:=Ret env 62 [.lit (.string x0),.lit (.string x1)] (res r).1 (res r).2
theorem enter (x0 x1:ByteArray) (φ:Int->Prop) (h :
 ∃ r1:Int,q18_.C x0 x1 r1 /\
 φ r1):∃ r,φ r/\C x0 x1 r:=
 mEnt (fd:=Tryz.f62) (body:=B) (V:=W) (res:=res) <|
 mCal 6 h (fun _ h=>h) fun r1 _ h=>
 mRet 2 h
end q49_
namespace q59_
noncomputable def B:Code:=(Tryz.f31.body).getD .skip
def W:List Nat:=[0,1,2,3,4]
def res (r:Int):D×List D:=(.lit (.int .i64 r),[])
def C (x0 x1:api_Value) (r:Int):Prop:=Ret env 31 [.agg [.lit (.int .i64 x0.Kind),.lit (.int .i64 x0.Num),.lit (.string x0.Str)],.agg [.lit (.int .i64 x1.Kind),.lit (.int .i64 x1.Num),.lit (.string x1.Str)]] (res r).1 (res r).2
theorem enter (x0 x1:api_Value) (φ:Int->Prop) (h :
 ∃ r1:Int,q47_.C x0.Kind x1.Kind r1 /\
 ∃ r2:Int,q38_.C x0.Num x1.Num r2 /\
 ∃ r3:Int,q49_.C x0.Str x1.Str r3 /\
 ∃ r4:Int,q74_.C ([r1,r2,r3]) r4 /\
 φ r4):∃ r,φ r/\C x0 x1 r:=
 mEnt (fd:=Tryz.f31) (body:=B) (V:=W) (res:=res) <|
 mLo 10 h (fun _ h=>h) fun r1 _ h=>
 mLo 4 h (fun _ h=>h) fun r2 _ h=>
 mCal 4 h (fun _ h=>h) fun r3 _ h=>
 mCal 1 h (fun _ h=>h) (hr:=by exact (Agy (Akf (s:=20) (ps:=[]) (l:=[r1,r2,r3]) (e:=(eI .i64)) (e':=(eI .i64)) (fun _=>rfl) (by kernel_rfl)) Akd)) fun r4 _ h=>
 mRet 2 h
end q59_
namespace q60_
noncomputable def B:Code:=(Tryz.f36.body).getD .skip
def W:List Nat:=[0,2,4,5,8,11,14,17,20,23,26,29,32,35]
def res (r:api_Value):D×List D:=(.agg [.lit (.int .i64 r.Kind),.lit (.int .i64 r.Num),.lit (.string r.Str)],[])
def C (x0:Int) (r:api_Value):Prop:=Ret env 36 [.lit (.int .u8 x0)] (res r).1 (res r).2
theorem enter (x0:Int) (φ:api_Value->Prop) (h :
 (if (Int.tmod x0 12)=0 then
 φ ((⟨1,0,(⟨#[]⟩:ByteArray)⟩:api_Value))
 else
 (if (Int.tmod x0 12)=1 then
 φ ((⟨1,1,(⟨#[]⟩:ByteArray)⟩:api_Value))
 else
 (if (Int.tmod x0 12)=2 then
 φ ((⟨1,2,(⟨#[]⟩:ByteArray)⟩:api_Value))
 else
 (if (Int.tmod x0 12)=3 then
 φ ((⟨0,0,(⟨#[]⟩:ByteArray)⟩:api_Value))
 else
 (if (Int.tmod x0 12)=4 then
 φ ((⟨2,0,(⟨#[97]⟩:ByteArray)⟩:api_Value))
 else
 (if (Int.tmod x0 12)=5 then
 φ ((⟨2,0,(⟨#[98]⟩:ByteArray)⟩:api_Value))
 else
 (if (Int.tmod x0 12)=6 then
 φ ((⟨2,0,(⟨#[]⟩:ByteArray)⟩:api_Value))
 else
 (if (Int.tmod x0 12)=7 then
 φ ((⟨3,1,(⟨#[]⟩:ByteArray)⟩:api_Value))
 else
 (if (Int.tmod x0 12)=8 then
 φ ((⟨1,(-1),(⟨#[]⟩:ByteArray)⟩:api_Value))
 else
 (if (Int.tmod x0 12)=9 then
 φ ((⟨2,0,(⟨#[97,98]⟩:ByteArray)⟩:api_Value))
 else
 (if (Int.tmod x0 12)=10 then
 φ ((⟨3,2,(⟨#[]⟩:ByteArray)⟩:api_Value))
 else
 φ ((⟨1,7,(⟨#[]⟩:ByteArray)⟩:api_Value)))))))))))))):∃ r,φ r/\C x0 r:=
 mEnt (fd:=Tryz.f36) (body:=B) (V:=W) (res:=res) <|
 mCon 11 h Aay Aax (fun h=>
 mRet 4 h) fun h=>
 mCon 4 h Aay Aax (fun h=>
 mRet 4 h) fun h=>
 mCon 4 h Aay Aax (fun h=>
 mRet 4 h) fun h=>
 mCon 4 h Aay Aax (fun h=>
 mRet 4 h) fun h=>
 mCon 4 h Aay Aax (fun h=>
 mRet 4 h) fun h=>
 mCon 4 h Aay Aax (fun h=>
 mRet 4 h) fun h=>
 mCon 4 h Aay Aax (fun h=>
 mRet 4 h) fun h=>
 mCon 4 h Aay Aax (fun h=>
 mRet 4 h) fun h=>
 mCon 4 h Aay Aax (fun h=>
 mRet 4 h) fun h=>
 mCon 4 h Aay Aax (fun h=>
 mRet 4 h) fun h=>
 mCon 4 h Aay Aax (fun h=>
 mRet 4 h) fun h=>
 mRet 5 h
end q60_
namespace q50_
noncomputable def B:Code:=(Tryz.f12.body).getD .skip
def W:List Nat:=[0,1,2,4,5,6,7,8,9,20,34,44]
def res (r:api_Table):D×List D:=(.agg [.lit (.string r.Name),.own (r.Attrs.map eS),.own (r.Rows.map Ac6)],[])
def C (x0:drossref03_Recipe) (x1:Int) (r:api_Table):Prop:=Ret env 12 [.agg [.lit (.int .u8 x0.Attrs),.lit (.int .u8 x0.Gap),.sl (x0.Rows.map (eSl (eI .u8)))],.lit (.int .i64 x1)] (res r).1 (res r).2
def L1 (x0:drossref03_Recipe) (x1:Int) (z0:List api_Row) (z1:Int) (φ:api_Table->Prop):Prop:=Pt env 12 W B [1,1,0,1,0] [(0,.agg [.lit (.int .u8 x0.Attrs),.lit (.int .u8 x0.Gap),.sl (x0.Rows.map (eSl (eI .u8)))]),(1,.lit (.int .i64 x1)),(2,.box [.lit (.int .u8 x0.Attrs),.lit (.int .u8 x0.Gap),.sl (x0.Rows.map (eSl (eI .u8)))]),(4,.box [.lit (.string ((⟨#[]⟩:ByteArray))),.own [],.own []]),(5,.box [.lit (.string ((⟨#[114]⟩:ByteArray))),.own (((List.take (x1.toNat-0) (List.drop 0 [(⟨#[97]⟩:ByteArray),(⟨#[98]⟩:ByteArray),(⟨#[99]⟩:ByteArray),(⟨#[100]⟩:ByteArray),(⟨#[101]⟩:ByteArray),(⟨#[102]⟩:ByteArray),(⟨#[103]⟩:ByteArray),(⟨#[104]⟩:ByteArray)]))).map eS),.own (z0.map Ac6)]),(6,.lit (.int .i64 z1))] (Lv env 12 Tryz.f12 2 res φ)
def L2 (x0:drossref03_Recipe) (x1:Int) (z0:List api_Row) (z1 z2:Int) (z3:List api_Value) (z4:Int) (φ:api_Table->Prop):Prop:=Pt env 12 W B [1,1,0,1,0,0,1,0,0,1,0,1,0] [(0,.agg [.lit (.int .u8 x0.Attrs),.lit (.int .u8 x0.Gap),.sl (x0.Rows.map (eSl (eI .u8)))]),(1,.lit (.int .i64 x1)),(2,.box [.lit (.int .u8 x0.Attrs),.lit (.int .u8 x0.Gap),.sl (x0.Rows.map (eSl (eI .u8)))]),(4,.box [.lit (.string ((⟨#[]⟩:ByteArray))),.own [],.own []]),(5,.box [.lit (.string ((⟨#[114]⟩:ByteArray))),.own (((List.take (x1.toNat-0) (List.drop 0 [(⟨#[97]⟩:ByteArray),(⟨#[98]⟩:ByteArray),(⟨#[99]⟩:ByteArray),(⟨#[100]⟩:ByteArray),(⟨#[101]⟩:ByteArray),(⟨#[102]⟩:ByteArray),(⟨#[103]⟩:ByteArray),(⟨#[104]⟩:ByteArray)]))).map eS),.own (z0.map Ac6)]),(6,.lit (.int .i64 z1)),(7,.box [.lit (.int .i64 z2),.own (z3.map Aa2)]),(8,.lit (.int .i64 z4))] (Lv env 12 Tryz.f12 2 res φ)
def L3 (x0:drossref03_Recipe) (x1:Int) (z0:List api_Row) (z1 z2:Int) (z3:List api_Value) (z4 a7:Int) (φ:api_Table->Prop):Prop:=Pt env 12 W B [1,1,0,1,0,0,1,0,0,1,0,1,0,0,1,0,0,1,1] [(0,.agg [.lit (.int .u8 x0.Attrs),.lit (.int .u8 x0.Gap),.sl (x0.Rows.map (eSl (eI .u8)))]),(1,.lit (.int .i64 x1)),(2,.box [.lit (.int .u8 x0.Attrs),.lit (.int .u8 x0.Gap),.sl (x0.Rows.map (eSl (eI .u8)))]),(4,.box [.lit (.string ((⟨#[]⟩:ByteArray))),.own [],.own []]),(5,.box [.lit (.string ((⟨#[114]⟩:ByteArray))),.own (((List.take (x1.toNat-0) (List.drop 0 [(⟨#[97]⟩:ByteArray),(⟨#[98]⟩:ByteArray),(⟨#[99]⟩:ByteArray),(⟨#[100]⟩:ByteArray),(⟨#[101]⟩:ByteArray),(⟨#[102]⟩:ByteArray),(⟨#[103]⟩:ByteArray),(⟨#[104]⟩:ByteArray)]))).map eS),.own (z0.map Ac6)]),(6,.lit (.int .i64 z1)),(7,.box [.lit (.int .i64 z2),.own (z3.map Aa2)]),(8,.lit (.int .i64 z4)),(9,.lit (.int .u8 a7))] (Lv env 12 Tryz.f12 2 res φ)
theorem L1_step (x0:drossref03_Recipe) (x1:Int) (z0:List api_Row) (z1:Int) (φ:api_Table->Prop) (h :
 (if z1<(x0.Rows.length:Int) then
 q50_.L2 x0 x1 z0 z1 ((IntKind.wrap .i64 (1+(IntKind.wrap .i64 (z1*(IntKind.wrap .i64 (1+(IntKind.wrap .i64 (Int.tmod x0.Gap 3))))))))) ([]) 0 φ
 else
 φ ((⟨(⟨#[114]⟩:ByteArray),(List.take (x1.toNat-0) (List.drop 0 [(⟨#[97]⟩:ByteArray),(⟨#[98]⟩:ByteArray),(⟨#[99]⟩:ByteArray),(⟨#[100]⟩:ByteArray),(⟨#[101]⟩:ByteArray),(⟨#[102]⟩:ByteArray),(⟨#[103]⟩:ByteArray),(⟨#[104]⟩:ByteArray)])),z0⟩:api_Table)))):L1 x0 x1 z0 z1 φ:=
 mIn <|
 mLen 5 (eSl (eI .u8)) x0.Rows <|
 mAsk 0 h dT dF (fun h=>
 mFin 19 h) fun h=>
 mRet 7 h
theorem L2_step (x0:drossref03_Recipe) (x1:Int) (z0:List api_Row) (z1 z2:Int) (z3:List api_Value) (z4:Int) (φ:api_Table->Prop) (h :
 (if z4<x1 then
 ∃ a5,lget x0.Rows z1=some a5 /\
 (if z4<(a5.length:Int) then
 ∃ a7,lget a5 z4=some a7 /\
 q50_.L3 x0 x1 z0 z1 z2 z3 z4 a7 φ
 else
 q50_.L3 x0 x1 z0 z1 z2 z3 z4 0 φ)
 else
 (z0.length+1)*32<=140737488355328 /\
 q50_.L1 x0 x1 ((z0++[(⟨z2,z3⟩:api_Row)])) ((IntKind.wrap .i64 (z1+1))) φ)):L2 x0 x1 z0 z1 z2 z3 z4 φ:=
 mIn <|
 mAsk 4 h dT dF (fun h=>
 mIx 11 (eSl (eI .u8)) h fun a5 h6 h=>
 mLen 1 (eI .u8) a5 <|
 mAsk 0 h dT dF (fun h=>
 mIxf 6 (eSl (eI .u8)) h6 <|
 mIx 2 (eI .u8) h fun a7 h8 h=>
 mFin 3 h) fun h=>
 mFin 3 h) fun h=>
 mApp 8 Ac6 z0 ([(⟨z2,z3⟩:api_Row)]) h fun h=>
 mFin 8 h
theorem L3_step (x0:drossref03_Recipe) (x1:Int) (z0:List api_Row) (z1 z2:Int) (z3:List api_Value) (z4 a7:Int) (φ:api_Table->Prop) (h :
 ∃ r10:api_Value,q60_.C a7 r10 /\
 (z3.length+1)*32<=140737488355328 /\
 q50_.L2 x0 x1 z0 z1 z2 ((z3++[r10])) ((IntKind.wrap .i64 (z4+1))) φ):L3 x0 x1 z0 z1 z2 z3 z4 a7 φ:=
 mIn <|
 mLo 4 h (fun _ h=>h) (hf:=(fun _=>Aoi (Al0 (Aa8 rfl (Aa8 rfl (Aa8 rfl Ab9)))))) fun r10 _ h=>
 mApp 1 Aa2 z3 ([r10]) h fun h=>
 mFin 8 h
theorem enter (x0:drossref03_Recipe) (x1:Int) (φ:api_Table->Prop) (h :
 0<=x1 /\
 (0<=x1.toNat/\x1.toNat<=([(⟨#[97]⟩:ByteArray),(⟨#[98]⟩:ByteArray),(⟨#[99]⟩:ByteArray),(⟨#[100]⟩:ByteArray),(⟨#[101]⟩:ByteArray),(⟨#[102]⟩:ByteArray),(⟨#[103]⟩:ByteArray),(⟨#[104]⟩:ByteArray)]).length) /\
 0+(x1.toNat-0)<=([(⟨#[97]⟩:ByteArray),(⟨#[98]⟩:ByteArray),(⟨#[99]⟩:ByteArray),(⟨#[100]⟩:ByteArray),(⟨#[101]⟩:ByteArray),(⟨#[102]⟩:ByteArray),(⟨#[103]⟩:ByteArray),(⟨#[104]⟩:ByteArray)]).length /\
 (0+((List.take (x1.toNat-0) (List.drop 0 [(⟨#[97]⟩:ByteArray),(⟨#[98]⟩:ByteArray),(⟨#[99]⟩:ByteArray),(⟨#[100]⟩:ByteArray),(⟨#[101]⟩:ByteArray),(⟨#[102]⟩:ByteArray),(⟨#[103]⟩:ByteArray),(⟨#[104]⟩:ByteArray)]))).length)*16<=140737488355328 /\
 q50_.L1 x0 x1 ([]) 0 φ):∃ r,φ r/\C x0 x1 r:=
 mEnt (fd:=Tryz.f12) (body:=B) (V:=W) (res:=res) <|
 h.elim fun h1 h=>
 h.elim fun h2 h=>
 mVl 8 (Amm (s:=11) (ps:=[]) (t:=28) (x:=(.tmp 11)) (lo:=none) (hi:=(some (.tmp 12))) (lo':=none) (hi':=some (x1).toNat) (e:=eS) (l:=[(⟨#[97]⟩:ByteArray),(⟨#[98]⟩:ByteArray),(⟨#[99]⟩:ByteArray),(⟨#[100]⟩:ByteArray),(⟨#[101]⟩:ByteArray),(⟨#[102]⟩:ByteArray),(⟨#[103]⟩:ByteArray),(⟨#[104]⟩:ByteArray)]) (et:=9) (k:=1) (by kernel_rfl) (by kernel_rfl) (Ag2 (by kernel_rfl)) Acu (Acv (i:=x1) (q:=.i64) (by kernel_rfl) h1) (by kernel_rfl) (by kernel_rfl) (fun _=>rfl) (by kernel_rfl) h2.1 h2.2) <|
 h.elim fun h3 h=>
 h.elim fun h4 h=>
 mOp 0 (app3 (x:=(.tmp 10)) (y:=(.tmp 13)) (t:=28) (u:=28) (et:=9) (z:=.lit (.string ((⟨#[]⟩:ByteArray)))) (k:=1) (c:=16) (e:=eS) (l:=[]) (m:=(List.take (x1.toNat-0) (List.drop 0 [(⟨#[97]⟩:ByteArray),(⟨#[98]⟩:ByteArray),(⟨#[99]⟩:ByteArray),(⟨#[100]⟩:ByteArray),(⟨#[101]⟩:ByteArray),(⟨#[102]⟩:ByteArray),(⟨#[103]⟩:ByteArray),(⟨#[104]⟩:ByteArray)]))) (by kernel_rfl) (by kernel_rfl) (by kernel_rfl) (by kernel_rfl) (by kernel_rfl) (by kernel_rfl) (Aum (s:=11) (ps:=[]) (off:=0) (len:=(x1.toNat-0)) (by kernel_rfl) (Asv (s:=11) (ps:=[]) (l:=[(⟨#[97]⟩:ByteArray),(⟨#[98]⟩:ByteArray),(⟨#[99]⟩:ByteArray),(⟨#[100]⟩:ByteArray),(⟨#[101]⟩:ByteArray),(⟨#[102]⟩:ByteArray),(⟨#[103]⟩:ByteArray),(⟨#[104]⟩:ByteArray)]) (e:=eS) (by kernel_rfl) h3) (fun _=>rfl)) (by kernel_rfl) (by kernel_rfl) (by kernel_rfl) (by kernel_rfl) (fun _=>rfl) h4) <|
 mFin 7 h
end q50_
namespace q40_
noncomputable def B:Code:=(Tryz.f4.body).getD .skip
def W:List Nat:=[0,1,2,4,5,10]
def res (r:api_Table×Bool):D×List D:=(.tup [.agg [.lit (.string r.1.Name),.own (r.1.Attrs.map eS),.own (r.1.Rows.map Ac6)],.lit (.bool r.2)],[])
def C (x0:drossref03_Recipe) (x1:Int) (r:api_Table×Bool):Prop:=Ret env 4 [.agg [.lit (.int .u8 x0.Attrs),.lit (.int .u8 x0.Gap),.sl (x0.Rows.map (eSl (eI .u8)))],.lit (.int .i64 x1)] (res r).1 (res r).2
theorem enter (x0:drossref03_Recipe) (x1:Int) (φ:api_Table×Bool->Prop) (h :
 (if x1<(x0.Rows.length:Int) then
 φ (((⟨(⟨#[]⟩:ByteArray),[],[]⟩:api_Table),false))
 else
 ∃ r1:api_Table,q50_.C x0 ((IntKind.wrap .i64 (Int.tmod x0.Attrs 6))) r1 /\
 φ ((r1,true)))):∃ r,φ r/\C x0 x1 r:=
 mEnt (fd:=Tryz.f4) (body:=B) (V:=W) (res:=res) <|
 mLen 8 (eSl (eI .u8)) x0.Rows <|
 mAsk 1 h dT dF (fun h=>
 mRet 7 h) fun h=>
 mCal 9 h (fun _ h=>h) (hf:=(fun _=>Aau (Al0 (Aa8 rfl (Aa8 (Ab8 (e:=eS) (fun _=>rfl)) (Aa8 (Ab8 (e:=Ac6) (fun _=>(Aa8 rfl (Aa8 (Ab8 (e:=Aa2) (fun _=>rfl)) Ab9)))) Ab9)))) rfl)) fun r1 _ h=>
 mRet 3 h
end q40_
namespace q41_
noncomputable def B:Code:=(Tryz.f30.body).getD .skip
def W:List Nat:=[0,1,2,3,4,6,8,9,10,11,12,13,28]
def res (r:Int):D×List D:=(.lit (.int .i64 r),[])
def C (x0 x1:api_Row) (x2:List Int) (r:Int):Prop:=Ret env 30 [.agg [.lit (.int .i64 x0.ID),.sl (x0.Values.map Aa2)],.agg [.lit (.int .i64 x1.ID),.sl (x1.Values.map Aa2)],.sl (x2.map (eI .i64))] (res r).1 (res r).2
def L1 (x0 x1:api_Row) (x2:List Int) (z0:Int) (φ:Int->Prop):Prop:=Pt env 30 W B [1,0,1,0] [(0,.agg [.lit (.int .i64 x0.ID),.sl (x0.Values.map Aa2)]),(1,.agg [.lit (.int .i64 x1.ID),.sl (x1.Values.map Aa2)]),(2,.sl (x2.map (eI .i64))),(3,.box [.lit (.int .i64 x0.ID),.sl (x0.Values.map Aa2)]),(4,.box [.lit (.int .i64 x1.ID),.sl (x1.Values.map Aa2)]),(10,.sl (x2.map (eI .i64))),(11,.lit (.int .i64 ((x2.length:Int)))),(12,.lit (.int .i64 z0))] (Lv env 30 Tryz.f30 3 res φ)
theorem L1_step (x0 x1:api_Row) (x2:List Int) (z0:Int) (φ:Int->Prop) (h :
 (if z0<(x2.length:Int) then
 ∃ a1,lget x2 z0=some a1 /\
 ∃ a3,lget x0.Values a1=some a3 /\
 ∃ a5,lget x1.Values a1=some a5 /\
 ∃ r7:Int,q59_.C a3 a5 r7 /\
 (if r7=0 then
 q41_.L1 x0 x1 x2 ((IntKind.wrap .i64 (z0+1))) φ
 else
 φ r7)
 else
 φ 0)):L1 x0 x1 x2 z0 φ:=
 mIn <|
 mAsk 2 h dT dF (fun h=>
 mIx 4 (eI .i64) h fun a1 h2 h=>
 mIx 7 Aa2 h fun a3 h4 h=>
 mIx 4 Aa2 h fun a5 h6 h=>
 mCal 1 h (fun _ h=>h) fun r7 _ h=>
 Acq 4 h Acf Ace (fun h=>
 mRet 6 h) fun h=>
 mFin 7 h) fun h=>
 mRet 6 h
theorem enter (x0 x1:api_Row) (x2:List Int) (φ:Int->Prop) (h :
 q41_.L1 x0 x1 x2 0 φ):∃ r,φ r/\C x0 x1 x2 r:=
 mEnt (fd:=Tryz.f30) (body:=B) (V:=W) (res:=res) <|
 mLen 7 (eI .i64) x2 <|
 mFin 2 h
end q41_
namespace q61_
noncomputable def B:Code:=(Tryz.f53.body).getD .skip
def W:List Nat:=[0,1,2,3,4,5,6,7,8,19,26]
def res (r:Int):D×List D:=(.lit (.int .i64 r),[])
def C (x0 x1:api_Row) (x2:api_OD) (r:Int):Prop:=Ret env 53 [.agg [.lit (.int .i64 x0.ID),.sl (x0.Values.map Aa2)],.agg [.lit (.int .i64 x1.ID),.sl (x1.Values.map Aa2)],.agg [.sl (x2.Lhs.map (eI .i64)),.sl (x2.Rhs.map (eI .i64))]] (res r).1 (res r).2
def L1 (r1 r2:Int) (φ:Int->Prop):Prop:=Pt env 53 W B [1,1,0,0,1,1,0] [(7,.lit (.int .i64 r1)),(8,.lit (.int .i64 r2))] (Lv env 53 Tryz.f53 3 res φ)
theorem L1_step (r1 r2:Int) (φ:Int->Prop) (h :
 (if (IntKind.wrap .i64 (r1*r2))<0 then
 φ 2
 else
 φ 0)):L1 r1 r2 φ:=
 mIn <|
 mCon 7 h dT dF (fun h=>
 mRet 3 h) fun h=>
 mRet 4 h
theorem enter (x0 x1:api_Row) (x2:api_OD) (φ:Int->Prop) (h :
 ∃ r1:Int,q41_.C x0 x1 x2.Lhs r1 /\
 ∃ r2:Int,q41_.C x0 x1 x2.Rhs r2 /\
 (if r1=0 then
 (if r2=0 then
 q61_.L1 r1 r2 φ
 else
 φ 1)
 else
 q61_.L1 r1 r2 φ)):∃ r,φ r/\C x0 x1 x2 r:=
 mEnt (fd:=Tryz.f53) (body:=B) (V:=W) (res:=res) <|
 mLo 11 h (fun _ h=>h) fun r1 _ h=>
 mCal 4 h (fun _ h=>h) fun r2 _ h=>
 mAsk 5 h Aay Aax (fun h=>
 Axj 6 h Acf Ace (fun h=>
 mRet 3 h) fun h=>
 mFin 0 h) fun h=>
 mFin 7 h
end q61_
namespace q51_
noncomputable def B:Code:=(Tryz.f82.body).getD .skip
def W:List Nat:=[0,1,3]
def res (r:Bool):D×List D:=(.lit (.bool r),[])
def C (x0 k1_0:Int) (r:Bool):Prop:=Ret env 82 [.lit (.int .i64 x0),.ref [.lit (.int .i64 k1_0)]] (res r).1 (res r).2
theorem enter (x0 k1_0:Int) (φ:Bool->Prop) (h :
 (if x0<0 then
 φ true
 else
 φ ((decide (k1_0<=x0))))):∃ r,φ r/\C x0 k1_0 r:=
 mEnt (fd:=Tryz.f82) (body:=B) (V:=W) (res:=res) <|
 mAsk 5 h dT dF (fun h=>
 mRet 7 h) fun h=>
 mRet 7 h
end q51_
namespace q11_
noncomputable def B:Code:=(Tryz.f96.body).getD .skip
def W:List Nat:=[0,1,4,5,7,8,9,16]
def res (r:Int):D×List D:=(.lit (.int .i64 r),[])
def C (x0:List Int) (k1_0 r:Int):Prop:=Ret env 96 [.sl (x0.map (eI .i64)),.fn 82 [.ref [.lit (.int .i64 k1_0)]]] (res r).1 (res r).2
def L1 (x0:List Int) (k1_0 z0:Int) (φ:Int->Prop):Prop:=Pt env 96 W B [1,0,1,0] [(0,.sl (x0.map (eI .i64))),(1,.fn 82 [.ref [.lit (.int .i64 k1_0)]]),(7,.lit (.int .i64 ((x0.length:Int)))),(8,.lit (.int .i64 z0))] (Lv env 96 Tryz.f96 2 res φ)
theorem L1_step (x0:List Int) (k1_0 z0:Int) (φ:Int->Prop) (h :
 (if z0<(x0.length:Int) then
 ∃ a1,lget x0 z0=some a1 /\
 ∃ r3:Bool,q51_.C a1 k1_0 r3 /\
 (if r3=true then
 φ z0
 else
 q11_.L1 x0 k1_0 ((IntKind.wrap .i64 (z0+1))) φ)
 else
 φ ((-1)))):L1 x0 k1_0 z0 φ:=
 mIn <|
 mAsk 2 h dT dF (fun h=>
 mIx 11 (eI .i64) h fun a1 h2 h=>
 Abr 1 h (fun _ h=>h) (fun _ h=>
 mRet 6 h) fun _ h=>
 mFin 7 h) fun h=>
 mRet 6 h
theorem enter (x0:List Int) (k1_0:Int) (φ:Int->Prop) (h :
 q11_.L1 x0 k1_0 0 φ):∃ r,φ r/\C x0 k1_0 r:=
 mEnt (fd:=Tryz.f96) (body:=B) (V:=W) (res:=res) <|
 mLen 5 (eI .i64) x0 <|
 mFin 2 h
end q11_
namespace q8_
noncomputable def B:Code:=(Tryz.f70.body).getD .skip
def W:List Nat:=[0,1,4]
def res (r:Bool):D×List D:=(.lit (.bool r),[])
def C (x0:List Int) (k1_0:Int) (r:Bool):Prop:=Ret env 70 [.sl (x0.map (eI .i64)),.fn 82 [.ref [.lit (.int .i64 k1_0)]]] (res r).1 (res r).2
theorem enter (x0:List Int) (k1_0:Int) (φ:Bool->Prop) (h :
 ∃ r1:Int,q11_.C x0 k1_0 r1 /\
 φ ((decide (0<=r1)))):∃ r,φ r/\C x0 k1_0 r:=
 mEnt (fd:=Tryz.f70) (body:=B) (V:=W) (res:=res) <|
 mCal 6 h (fun _ h=>h) fun r1 _ h=>
 mRet 3 h
end q8_
namespace q62_
noncomputable def B:Code:=(Tryz.f51.body).getD .skip
def W:List Nat:=[0,1,2,4]
def res (r:Bool):D×List D:=(.lit (.bool r),[])
def C (x0:Int) (x1:List Int) (r:Bool):Prop:=Ret env 51 [.lit (.int .i64 x0),.sl (x1.map (eI .i64))] (res r).1 (res r).2
theorem enter (x0:Int) (x1:List Int) (φ:Bool->Prop) (h :
 (if (x1.length:Int)<=8 then
 ∃ r1:Bool,q8_.C x1 x0 r1 /\
 φ ((not r1))
 else
 φ false)):∃ r,φ r/\C x0 x1 r:=
 mEnt (fd:=Tryz.f51) (body:=B) (V:=W) (res:=res) <|
 mLen 6 (eI .i64) x1 <|
 mAsk 0 h dT dF (fun h=>
 mCal 3 h (fun _ h=>h) fun r1 _ h=>
 mRet 4 h) fun h=>
 mRet 8 h
end q62_
namespace q55_
noncomputable def B:Code:=(Tryz.f21.body).getD .skip
def W:List Nat:=[0,1,3,4]
def res (r:Bool):D×List D:=(.lit (.bool r),[])
def C (x0:Int) (x1:api_OD) (r:Bool):Prop:=Ret env 21 [.lit (.int .i64 x0),.agg [.sl (x1.Lhs.map (eI .i64)),.sl (x1.Rhs.map (eI .i64))]] (res r).1 (res r).2
theorem enter (x0:Int) (x1:api_OD) (φ:Bool->Prop) (h :
 ∃ r1:Bool,q62_.C x0 x1.Lhs r1 /\
 (if r1=true then
 ∃ r2:Bool,q62_.C x0 x1.Rhs r2 /\
 φ r2
 else
 φ false)):∃ r,φ r/\C x0 x1 r:=
 mEnt (fd:=Tryz.f21) (body:=B) (V:=W) (res:=res) <|
 Abr 8 h (fun _ h=>h) (fun _ h=>
 mCal 4 h (fun _ h=>h) fun r2 _ h=>
 mRet 3 h) fun _ h=>
 mRet 8 h
end q55_
namespace q24_
noncomputable def B:Code:=(Tryz.f83.body).getD .skip
def W:List Nat:=[0,1,4,5,7,8,9,16]
def res (r:Int):D×List D:=(.lit (.int .i64 r),[])
def C (x0:List Int) (x1 r:Int):Prop:=Ret env 83 [.sl (x0.map (eI .i64)),.lit (.int .i64 x1)] (res r).1 (res r).2
def L1 (x0:List Int) (x1 z0:Int) (φ:Int->Prop):Prop:=Pt env 83 W B [1,0,1,0] [(0,.sl (x0.map (eI .i64))),(1,.lit (.int .i64 x1)),(7,.lit (.int .i64 ((x0.length:Int)))),(8,.lit (.int .i64 z0))] (Lv env 83 Tryz.f83 2 res φ)
theorem L1_step (x0:List Int) (x1 z0:Int) (φ:Int->Prop) (h :
 (if z0<(x0.length:Int) then
 ∃ a1,lget x0 z0=some a1 /\
 (if x1=a1 then
 φ z0
 else
 q24_.L1 x0 x1 ((IntKind.wrap .i64 (z0+1))) φ)
 else
 φ ((-1)))):L1 x0 x1 z0 φ:=
 mIn <|
 mAsk 2 h dT dF (fun h=>
 mIx 11 (eI .i64) h fun a1 h2 h=>
 mAsk 1 h Aay Aax (fun h=>
 mRet 6 h) fun h=>
 mFin 7 h) fun h=>
 mRet 6 h
theorem enter (x0:List Int) (x1:Int) (φ:Int->Prop) (h :
 q24_.L1 x0 x1 0 φ):∃ r,φ r/\C x0 x1 r:=
 mEnt (fd:=Tryz.f83) (body:=B) (V:=W) (res:=res) <|
 mLen 5 (eI .i64) x0 <|
 mFin 2 h
end q24_
namespace q22_
noncomputable def B:Code:=(Tryz.f54.body).getD .skip
def W:List Nat:=[0,1,4]
def res (r:Bool):D×List D:=(.lit (.bool r),[])
def C (x0:List Int) (x1:Int) (r:Bool):Prop:=Ret env 54 [.sl (x0.map (eI .i64)),.lit (.int .i64 x1)] (res r).1 (res r).2
theorem enter (x0:List Int) (x1:Int) (φ:Bool->Prop) (h :
 ∃ r1:Int,q24_.C x0 x1 r1 /\
 φ ((decide (0<=r1)))):∃ r,φ r/\C x0 x1 r:=
 mEnt (fd:=Tryz.f54) (body:=B) (V:=W) (res:=res) <|
 mCal 6 h (fun _ h=>h) fun r1 _ h=>
 mRet 3 h
end q22_
namespace q63_
noncomputable def B:Code:=(Tryz.f23.body).getD .skip
def W:List Nat:=[0,2,3,5,6,7,8,9,15]
def res (r:List Int):D×List D:=(.own (r.map (eI .i64)),[])
def C (x0 r:List Int):Prop:=Ret env 23 [.sl (x0.map (eI .i64))] (res r).1 (res r).2
def L1 (x0 z0:List Int) (z1:Int) (φ:List Int->Prop):Prop:=Pt env 23 W B [1,1,0,1,0] [(0,.sl (x0.map (eI .i64))),(3,.own (z0.map (eI .i64))),(6,.sl (x0.map (eI .i64))),(7,.lit (.int .i64 ((x0.length:Int)))),(8,.lit (.int .i64 z1))] (Lv env 23 Tryz.f23 1 res φ)
def L2 (x0 z0:List Int) (z1:Int) (φ:List Int->Prop):Prop:=Pt env 23 W B [1,1,0,1,0,0,1,1,1] [(0,.sl (x0.map (eI .i64))),(3,.own (z0.map (eI .i64))),(6,.sl (x0.map (eI .i64))),(7,.lit (.int .i64 ((x0.length:Int)))),(8,.lit (.int .i64 z1))] (Lv env 23 Tryz.f23 1 res φ)
theorem L1_step (x0 z0:List Int) (z1:Int) (φ:List Int->Prop) (h :
 (if z1<(x0.length:Int) then
 ∃ a1,lget x0 z1=some a1 /\
 ∃ r3:Bool,q22_.C z0 a1 r3 /\
 (if r3=true then
 q63_.L2 x0 z0 z1 φ
 else
 (z0.length+1)*8<=140737488355328 /\
 q63_.L2 x0 ((z0++[a1])) z1 φ)
 else
 φ z0)):L1 x0 z0 z1 φ:=
 mIn <|
 mAsk 2 h dT dF (fun h=>
 mIx 4 (eI .i64) h fun a1 h2 h=>
 Abr 6 h (fun _ h=>h) (hr:=by exact (Agy (Akf (s:=3) (ps:=[]) (l:=z0) (e:=(eI .i64)) (e':=(eI .i64)) (fun _=>rfl) (by kernel_rfl)) (pr_k Akd))) (fun _ h=>
 mFin 4 h) fun _ h=>
 mApp 7 (eI .i64) z0 ([a1]) h fun h=>
 mFin 2 h) fun h=>
 mRet 7 h
theorem L2_step (x0 z0:List Int) (z1:Int) (φ:List Int->Prop) (h :
 q63_.L1 x0 z0 ((IntKind.wrap .i64 (z1+1))) φ):L2 x0 z0 z1 φ:=
 mIn <|
 mFin 4 h
theorem enter (x0:List Int) (φ:List Int->Prop) (h :
 q63_.L1 x0 ([]) 0 φ):∃ r,φ r/\C x0 r:=
 mEnt (fd:=Tryz.f23) (body:=B) (V:=W) (res:=res) <|
 mLen 8 (eI .i64) x0 <|
 mFin 2 h
end q63_
namespace q69_
noncomputable def B:Code:=(Tryz.f28.body).getD .skip
def W:List Nat:=[0,2,3,5,6,7,8,9]
def res (r:Int):D×List D:=(.lit (.int .u32 r),[])
def C (x0:List Int) (r:Int):Prop:=Ret env 28 [.sl (x0.map (eI .i64))] (res r).1 (res r).2
def L1 (x0:List Int) (z0 z1:Int) (φ:Int->Prop):Prop:=Pt env 28 W B [1,1,0,1,0] [(0,.sl (x0.map (eI .i64))),(3,.lit (.int .u32 z0)),(6,.sl (x0.map (eI .i64))),(7,.lit (.int .i64 ((x0.length:Int)))),(8,.lit (.int .i64 z1))] (Lv env 28 Tryz.f28 1 res φ)
theorem L1_step (x0:List Int) (z0 z1:Int) (φ:Int->Prop) (h :
 (if z1<(x0.length:Int) then
 ∃ a1,lget x0 z1=some a1 /\
 0<=a1 /\
 q69_.L1 x0 ((bOr .u32 z0 (shlw .u32 1 a1))) ((IntKind.wrap .i64 (z1+1))) φ
 else
 φ z0)):L1 x0 z0 z1 φ:=
 mIn <|
 mAsk 2 h dT dF (fun h=>
 mIx 4 (eI .i64) h fun a1 h2 h=>
 h.elim fun h3 h=>
 mBi 6 (Aw7 (t:=46) (q:=.u32) (q':=.i64) (i1:=1) h3) <|
 mFin 7 h) fun h=>
 mRet 7 h
theorem enter (x0:List Int) (φ:Int->Prop) (h :
 q69_.L1 x0 0 0 φ):∃ r,φ r/\C x0 r:=
 mEnt (fd:=Tryz.f28) (body:=B) (V:=W) (res:=res) <|
 mLen 8 (eI .i64) x0 <|
 mFin 2 h
end q69_
namespace q32_
noncomputable def B:Code:=(Tryz.f18.body).getD .skip
def W:List Nat:=[0,1,4,5,6,18]
def res (r:List Int):D×List D:=(.own (r.map (eI .i64)),[])
def C (x0:Int) (x1 r:List Int):Prop:=Ret env 18 [.lit (.int .i64 x0),.sl (x1.map (eI .u8))] (res r).1 (res r).2
def L1 (x0:Int) (x1 z0:List Int) (z1:Int) (φ:List Int->Prop):Prop:=Pt env 18 W B [1,1,0,1,0] [(0,.lit (.int .i64 x0)),(1,.sl (x1.map (eI .u8))),(5,.own (z0.map (eI .i64))),(6,.lit (.int .i64 z1))] (Lv env 18 Tryz.f18 2 res φ)
theorem L1_step (x0:Int) (x1 z0:List Int) (z1:Int) (φ:List Int->Prop) (h :
 (if z1<(x1.length:Int) then
 (if z1<5 then
 (if 0<x0 then
 ∃ a1,lget x1 z1=some a1 /\
 ¬ x0=0 /\
 (z0.length+1)*8<=140737488355328 /\
 q32_.L1 x0 x1 ((z0++[(Int.tmod (IntKind.wrap .i64 a1) x0)])) ((IntKind.wrap .i64 (z1+1))) φ
 else
 φ z0)
 else
 φ z0)
 else
 φ z0)):L1 x0 x1 z0 z1 φ:=
 mIn <|
 mLen 4 (eI .u8) x1 <|
 mAsk 0 h dT dF (fun h=>
 mAsk 2 h dT dF (fun h=>
 mAsk 3 h dT dF (fun h=>
 mIx 8 (eI .u8) h fun a1 h2 h=>
 h.elim fun h3 h=>
 mBi 3 (Bci (t:=3) (q:=.i64) (i1:=(IntKind.wrap .i64 a1)) h3) <|
 mApp 1 (eI .i64) z0 ([(Int.tmod (IntKind.wrap .i64 a1) x0)]) h fun h=>
 mFin 7 h) fun h=>
 mRet 8 h) fun h=>
 mRet 12 h) fun h=>
 mRet 15 h
theorem enter (x0:Int) (x1:List Int) (φ:List Int->Prop) (h :
 q32_.L1 x0 x1 ([]) 0 φ):∃ r,φ r/\C x0 x1 r:=
 mEnt (fd:=Tryz.f18) (body:=B) (V:=W) (res:=res) <|
 mFin 9 h
end q32_
namespace q64_
noncomputable def B:Code:=(Tryz.f6.body).getD .skip
def W:List Nat:=[0,1,3,4]
def res (r:api_OD):D×List D:=(.agg [.own (r.Lhs.map (eI .i64)),.own (r.Rhs.map (eI .i64))],[])
def C (x0:Int) (x1:drossref17_Lists) (r:api_OD):Prop:=Ret env 6 [.lit (.int .i64 x0),.agg [.sl (x1.X.map (eI .u8)),.sl (x1.Y.map (eI .u8))]] (res r).1 (res r).2
theorem enter (x0:Int) (x1:drossref17_Lists) (φ:api_OD->Prop) (h :
 ∃ r1:List Int,q32_.C x0 x1.X r1 /\
 ∃ r2:List Int,q32_.C x0 x1.Y r2 /\
 φ ((⟨r1,r2⟩:api_OD))):∃ r,φ r/\C x0 x1 r:=
 mEnt (fd:=Tryz.f6) (body:=B) (V:=W) (res:=res) <|
 mLo 8 h (fun _ h=>h) (hf:=(fun _=>Aoi (Ab8 (e:=(eI .i64)) (fun _=>rfl)))) fun r1 _ h=>
 mCal 3 h (fun _ h=>h) (hf:=(fun _=>Aau (Ab8 (e:=(eI .i64)) (fun _=>rfl)) rfl)) fun r2 _ h=>
 mRet 3 h
end q64_
namespace q52_
noncomputable def B:Code:=(Tryz.f116.body).getD .skip
def W:List Nat:=[0,2,4,8,14]
def res (r:Int):D×List D:=(.lit (.int .i64 r),[])
def C (x0 r:Int):Prop:=Ret env 116 [.lit (.int .u64 x0)] (res r).1 (res r).2
def L3 (z0 z1:Int) (φ:Int->Prop):Prop:=Pt env 116 W B [1,1,0,0] [(0,.lit (.int .u64 z0)),(2,.lit (.int .i64 z1))] (Lv env 116 Tryz.f116 1 res φ)
def L2 (z0 z1:Int) (φ:Int->Prop):Prop:=Pt env 116 W B [1,1,1,0,0] [(0,.lit (.int .u64 z0)),(2,.lit (.int .i64 z1))] (Lv env 116 Tryz.f116 1 res φ)
def L1 (z0 z1:Int) (φ:Int->Prop):Prop:=Pt env 116 W B [1,1,1,1,0] [(0,.lit (.int .u64 z0)),(2,.lit (.int .i64 z1))] (Lv env 116 Tryz.f116 1 res φ)
theorem L3_step (z0 z1:Int) (φ:Int->Prop) (h :
 (if 65536<=z0 then
 q52_.L2 ((shrw .u64 z0 16)) ((IntKind.wrap .i64 (z1+16))) φ
 else
 q52_.L2 z0 z1 φ)):L3 z0 z1 φ:=
 mIn <|
 mAsk 2 h dT dF (fun h=>
 mFin 12 h) fun h=>
 mFin 3 h
theorem L2_step (z0 z1:Int) (φ:Int->Prop) (h :
 (if 256<=z0 then
 q52_.L1 ((shrw .u64 z0 8)) ((IntKind.wrap .i64 (z1+8))) φ
 else
 q52_.L1 z0 z1 φ)):L2 z0 z1 φ:=
 mIn <|
 mAsk 2 h dT dF (fun h=>
 mFin 12 h) fun h=>
 mFin 3 h
theorem L1_step (z0 z1:Int) (φ:Int->Prop) (h :
 ∃ b1,((0:Int)<=(IntKind.wrap .u8 z0)/\((⟨#[0,1,2,2,3,3,3,3,4,4,4,4,4,4,4,4,5,5,5,5,5,5,5,5,5,5,5,5,5,5,5,5,6,6,6,6,6,6,6,6,6,6,6,6,6,6,6,6,6,6,6,6,6,6,6,6,6,6,6,6,6,6,6,6,7,7,7,7,7,7,7,7,7,7,7,7,7,7,7,7,7,7,7,7,7,7,7,7,7,7,7,7,7,7,7,7,7,7,7,7,7,7,7,7,7,7,7,7,7,7,7,7,7,7,7,7,7,7,7,7,7,7,7,7,7,7,7,7,8,8,8,8,8,8,8,8,8,8,8,8,8,8,8,8,8,8,8,8,8,8,8,8,8,8,8,8,8,8,8,8,8,8,8,8,8,8,8,8,8,8,8,8,8,8,8,8,8,8,8,8,8,8,8,8,8,8,8,8,8,8,8,8,8,8,8,8,8,8,8,8,8,8,8,8,8,8,8,8,8,8,8,8,8,8,8,8,8,8,8,8,8,8,8,8,8,8,8,8,8,8,8,8,8,8,8,8,8,8,8,8,8,8,8,8,8,8,8,8,8,8,8,8,8,8,8,8]⟩:ByteArray))[((IntKind.wrap .u8 z0)).toNat]? = some b1) /\
 φ ((IntKind.wrap .i64 (z1+(IntKind.wrap .i64 (u8i b1)))))):L1 z0 z1 φ:=
 mIn <|
 mSt 4 h fun b1 h=>
 mRet 4 h
theorem enter (x0:Int) (φ:Int->Prop) (h :
 (if 4294967296<=x0 then
 q52_.L3 ((shrw .u64 x0 32)) 32 φ
 else
 q52_.L3 x0 0 φ)):∃ r,φ r/\C x0 r:=
 mEnt (fd:=Tryz.f116) (body:=B) (V:=W) (res:=res) <|
 mAsk 5 h dT dF (fun h=>
 mFin 10 h) fun h=>
 mFin 3 h
end q52_
namespace q65_
noncomputable def B:Code:=(Tryz.f86.body).getD .skip
def W:List Nat:=[0,2]
def res (r:Int):D×List D:=(.lit (.int .i64 r),[])
def C (x0 r:Int):Prop:=Ret env 86 [.lit (.int .u64 x0)] (res r).1 (res r).2
theorem enter (x0:Int) (φ:Int->Prop) (h :
 ∃ r1:Int,q52_.C x0 r1 /\
 φ r1):∃ r,φ r/\C x0 r:=
 mEnt (fd:=Tryz.f86) (body:=B) (V:=W) (res:=res) <|
 mCal 7 h (fun _ h=>h) fun r1 _ h=>
 mRet 2 h
end q65_
namespace q26_
noncomputable def B:Code:=(Tryz.f52.body).getD .skip
def W:List Nat:=[0,1,3]
def res (r:Bool):D×List D:=(.lit (.bool r),[])
def C (x0:Int) (k1_0 k1_1:List Int) (r:Bool):Prop:=Ret env 52 [.lit (.int .i64 x0),.ref [.sl (k1_0.map (eI .i64)),.sl (k1_1.map (eI .i64))]] (res r).1 (res r).2
theorem enter (x0:Int) (k1_0 k1_1:List Int) (φ:Bool->Prop) (h :
 ∃ r1:Bool,q55_.C x0 ((⟨k1_0,k1_1⟩:api_OD)) r1 /\
 φ r1):∃ r,φ r/\C x0 k1_0 k1_1 r:=
 mEnt (fd:=Tryz.f52) (body:=B) (V:=W) (res:=res) <|
 mCal 6 h (fun _ h=>h) fun r1 _ h=>
 mRet 2 h
end q26_
namespace q13_
noncomputable def B:Code:=(Tryz.f19.body).getD .skip
def W:List Nat:=[0,1,2,4,5,9,16]
def res (r:Int):D×List D:=(.lit (.int .i64 r),[])
def C (x0:api_Table) (k1_0 k1_1:List Int) (r:Int):Prop:=Ret env 19 [.agg [.lit (.string x0.Name),.sl (x0.Attrs.map eS),.sl (x0.Rows.map Aa1)],.fn 52 [.ref [.sl (k1_0.map (eI .i64)),.sl (k1_1.map (eI .i64))]]] (res r).1 (res r).2
theorem enter (x0:api_Table) (k1_0 k1_1:List Int) (φ:Int->Prop) (h :
 ∃ r1:Int,q73_.C x0 r1 /\
 (if r1=0 then
 ∃ r2:Bool,q26_.C ((x0.Attrs.length:Int)) k1_0 k1_1 r2 /\
 (if r2=true then
 φ 0
 else
 φ 1)
 else
 φ r1)):∃ r,φ r/\C x0 k1_0 k1_1 r:=
 mEnt (fd:=Tryz.f19) (body:=B) (V:=W) (res:=res) <|
 mCal 6 h (fun _ h=>h) fun r1 _ h=>
 Acq 4 h Acf Ace (fun h=>
 mRet 6 h) fun h=>
 mLen 7 eS x0.Attrs <|
 Abr 0 h (fun _ h=>h) (fun _ h=>
 mRet 7 h) fun _ h=>
 mRet 6 h
end q13_
namespace q33_
noncomputable def B:Code:=(Tryz.f22.body).getD .skip
def W:List Nat:=[0,1,2,3,4,5,6,7,8,9,11,12,16,18,19,20,21,29,30,31,32,40]
def res (r:Int×Int×Int×Bool):D×List D:=(.tup [.lit (.int .i64 r.1),.lit (.int .i64 r.2.1),.lit (.int .i64 r.2.2.1),.lit (.bool r.2.2.2)],[])
def C (x0:api_Table) (x1:api_OD) (r:Int×Int×Int×Bool):Prop:=Ret env 22 [.agg [.lit (.string x0.Name),.sl (x0.Attrs.map eS),.sl (x0.Rows.map Aa1)],.agg [.sl (x1.Lhs.map (eI .i64)),.sl (x1.Rhs.map (eI .i64))]] (res r).1 (res r).2
def L1 (x0:api_Table) (x1:api_OD) (z0:Int) (φ:Int×Int×Int×Bool->Prop):Prop:=Pt env 22 W B [1,1,0,1,0] [(0,.agg [.lit (.string x0.Name),.sl (x0.Attrs.map eS),.sl (x0.Rows.map Aa1)]),(1,.agg [.sl (x1.Lhs.map (eI .i64)),.sl (x1.Rhs.map (eI .i64))]),(2,.box [.lit (.string x0.Name),.sl (x0.Attrs.map eS),.sl (x0.Rows.map Aa1)]),(3,.box [.sl (x1.Lhs.map (eI .i64)),.sl (x1.Rhs.map (eI .i64))]),(18,.sl (x0.Rows.map Aa1)),(19,.lit (.int .i64 ((x0.Rows.length:Int)))),(20,.lit (.int .i64 z0))] (Lv env 22 Tryz.f22 2 res φ)
def L2 (x0:api_Table) (x1:api_OD) (a2:api_Row) (z0:Int) (z1:List api_Row) (z2 z3:Int) (φ:Int×Int×Int×Bool->Prop):Prop:=Pt env 22 W B [1,1,0,1,0,0,1,1,0,0,1,1,0] [(0,.agg [.lit (.string x0.Name),.sl (x0.Attrs.map eS),.sl (x0.Rows.map Aa1)]),(1,.agg [.sl (x1.Lhs.map (eI .i64)),.sl (x1.Rhs.map (eI .i64))]),(2,.box [.lit (.string x0.Name),.sl (x0.Attrs.map eS),.sl (x0.Rows.map Aa1)]),(3,.box [.sl (x1.Lhs.map (eI .i64)),.sl (x1.Rhs.map (eI .i64))]),(9,.box [.lit (.int .i64 a2.ID),.sl (a2.Values.map Aa2)]),(18,.sl (x0.Rows.map Aa1)),(19,.lit (.int .i64 ((x0.Rows.length:Int)))),(20,.lit (.int .i64 z0)),(29,.sl (z1.map Aa1)),(30,.lit (.int .i64 z2)),(31,.lit (.int .i64 z3))] (Lv env 22 Tryz.f22 2 res φ)
theorem L1_step (x0:api_Table) (x1:api_OD) (z0:Int) (φ:Int×Int×Int×Bool->Prop) (h :
 (if z0<(x0.Rows.length:Int) then
 ∃ a2,lget x0.Rows z0=some a2 /\
 0<=(IntKind.wrap .i64 (z0+1)) /\
 (((IntKind.wrap .i64 (z0+1))).toNat<=x0.Rows.length/\x0.Rows.length<=x0.Rows.length) /\
 q33_.L2 x0 x1 a2 z0 ((List.take (x0.Rows.length-((IntKind.wrap .i64 (z0+1))).toNat) (List.drop ((IntKind.wrap .i64 (z0+1))).toNat x0.Rows))) (((List.take (x0.Rows.length-((IntKind.wrap .i64 (z0+1))).toNat) (List.drop ((IntKind.wrap .i64 (z0+1))).toNat x0.Rows)).length:Int)) 0 φ
 else
 φ ((0,0,0,false)))):L1 x0 x1 z0 φ:=
 mIn <|
 mAsk 2 h dT dF (fun h=>
 mIx 5 Aa1 h fun a2 h3 h=>
 h.elim fun h4 h=>
 h.elim fun h5 h=>
 mVl 10 (Aet (t:=29) (x:=(.tmp 26)) (lo:=(some (.tmp 28))) (hi:=none) (lo':=some ((IntKind.wrap .i64 (z0+1))).toNat) (hi':=none) (e:=Aa1) (l:=x0.Rows) (et:=85) (k:=2) (by kernel_rfl) (by kernel_rfl) (Acv (i:=(IntKind.wrap .i64 (z0+1))) (q:=.i64) (by kernel_rfl) h4) Acu (by kernel_rfl) (by kernel_rfl) (fun _=>rfl) (by kernel_rfl) h5.1 h5.2) <|
 mLen 0 Aa1 ((List.take (x0.Rows.length-((IntKind.wrap .i64 (z0+1))).toNat) (List.drop ((IntKind.wrap .i64 (z0+1))).toNat x0.Rows))) <|
 mFin 2 h) fun h=>
 mRet 9 h
theorem L2_step (x0:api_Table) (x1:api_OD) (a2:api_Row) (z0:Int) (z1:List api_Row) (z2 z3:Int) (φ:Int×Int×Int×Bool->Prop) (h :
 (if z3<z2 then
 ∃ a6,lget z1 z3=some a6 /\
 ∃ r8:Int,q61_.C a2 a6 x1 r8 /\
 (if r8=0 then
 q33_.L2 x0 x1 a2 z0 z1 z2 ((IntKind.wrap .i64 (z3+1))) φ
 else
 φ ((a2.ID,a6.ID,r8,true)))
 else
 q33_.L1 x0 x1 ((IntKind.wrap .i64 (z0+1))) φ)):L2 x0 x1 a2 z0 z1 z2 z3 φ:=
 mIn <|
 mAsk 2 h dT dF (fun h=>
 mIx 4 Aa1 h fun a6 h7 h=>
 mCal 8 h (fun _ h=>h) fun r8 _ h=>
 Acq 4 h Acf Ace (fun h=>
 mRet 13 h) fun h=>
 mFin 7 h) fun h=>
 mFin 7 h
theorem enter (x0:api_Table) (x1:api_OD) (φ:Int×Int×Int×Bool->Prop) (h :
 ∃ r1:Int,q13_.C x0 x1.Lhs x1.Rhs r1 /\
 (if r1=0 then
 q33_.L1 x0 x1 0 φ
 else
 φ ((0,0,0,false)))):∃ r,φ r/\C x0 x1 r:=
 mEnt (fd:=Tryz.f22) (body:=B) (V:=W) (res:=res) <|
 mCal 11 h (fun _ h=>h) fun r1 _ h=>
 Acq 0 h Acf Ace (fun h=>
 mRet 8 h) fun h=>
 mLen 6 Aa1 x0.Rows <|
 mFin 2 h
end q33_
namespace q42_
noncomputable def B:Code:=(Tryz.f20.body).getD .skip
def W:List Nat:=[0,1,3]
def res (r:Bool):D×List D:=(.lit (.bool r),[])
def C (x0:Int) (k1_0 k1_1:List Int) (r:Bool):Prop:=Ret env 20 [.lit (.int .i64 x0),.ref [.sl (k1_0.map (eI .i64)),.sl (k1_1.map (eI .i64))]] (res r).1 (res r).2
theorem enter (x0:Int) (k1_0 k1_1:List Int) (φ:Bool->Prop) (h :
 ∃ r1:Bool,q55_.C x0 ((⟨k1_0,k1_1⟩:api_OD)) r1 /\
 φ r1):∃ r,φ r/\C x0 k1_0 k1_1 r:=
 mEnt (fd:=Tryz.f20) (body:=B) (V:=W) (res:=res) <|
 mCal 6 h (fun _ h=>h) fun r1 _ h=>
 mRet 2 h
end q42_
namespace q15_
noncomputable def B:Code:=(Tryz.f19.body).getD .skip
def W:List Nat:=[0,1,2,4,5,9,16]
def res (r:Int):D×List D:=(.lit (.int .i64 r),[])
def C (x0:api_Table) (k1_0 k1_1:List Int) (r:Int):Prop:=Ret env 19 [.agg [.lit (.string x0.Name),.sl (x0.Attrs.map eS),.sl (x0.Rows.map Aa1)],.fn 20 [.ref [.sl (k1_0.map (eI .i64)),.sl (k1_1.map (eI .i64))]]] (res r).1 (res r).2
theorem enter (x0:api_Table) (k1_0 k1_1:List Int) (φ:Int->Prop) (h :
 ∃ r1:Int,q73_.C x0 r1 /\
 (if r1=0 then
 ∃ r2:Bool,q42_.C ((x0.Attrs.length:Int)) k1_0 k1_1 r2 /\
 (if r2=true then
 φ 0
 else
 φ 1)
 else
 φ r1)):∃ r,φ r/\C x0 k1_0 k1_1 r:=
 mEnt (fd:=Tryz.f19) (body:=B) (V:=W) (res:=res) <|
 mCal 6 h (fun _ h=>h) fun r1 _ h=>
 Acq 4 h Acf Ace (fun h=>
 mRet 6 h) fun h=>
 mLen 7 eS x0.Attrs <|
 Abr 0 h (fun _ h=>h) (fun _ h=>
 mRet 7 h) fun _ h=>
 mRet 6 h
end q15_
namespace q56_
noncomputable def B:Code:=(Tryz.f7.body).getD .skip
def W:List Nat:=[0,1,2,3,4,5,6,7,8,9,10,15]
def res (r:Bool×Int):D×List D:=(.tup [.lit (.bool r.1),.lit (.int .i64 r.2)],[])
def C (x0:api_Table) (x1:api_OD) (r:Bool×Int):Prop:=Ret env 7 [.agg [.lit (.string x0.Name),.sl (x0.Attrs.map eS),.sl (x0.Rows.map Aa1)],.agg [.sl (x1.Lhs.map (eI .i64)),.sl (x1.Rhs.map (eI .i64))]] (res r).1 (res r).2
theorem enter (x0:api_Table) (x1:api_OD) (φ:Bool×Int->Prop) (h :
 ∃ r1:Int,q15_.C x0 x1.Lhs x1.Rhs r1 /\
 (if r1=0 then
 ∃ r2:Int×Int×Int×Bool,q33_.C x0 x1 r2 /\
 φ (((not r2.2.2.2),0))
 else
 φ ((false,r1)))):∃ r,φ r/\C x0 x1 r:=
 mEnt (fd:=Tryz.f7) (body:=B) (V:=W) (res:=res) <|
 mCal 9 h (fun _ h=>h) fun r1 _ h=>
 Acq 4 h Acf Ace (fun h=>
 mRet 7 h) fun h=>
 mCal 6 h (fun _ h=>h) (hf:=(fun _=>Aau (Aci (Aa8 rfl (Aa8 rfl (Aa8 rfl (Aa8 rfl Ab9))))) rfl)) fun r2 _ h=>
 mRet 16 h
end q56_
namespace q12_
noncomputable def B:Code:=(Tryz.f55.body).getD .skip
def W:List Nat:=[0,1,3,4,5,7,8,9,16]
def res (r:Int):D×List D:=(.lit (.int .i64 r),[])
def C (x0:List api_Canonical) (x1:api_Canonical) (r:Int):Prop:=Ret env 55 [.sl (x0.map Aa3),.agg [.lit (.int .u32 x1.Context),.lit (.int .i64 x1.A),.lit (.int .i64 x1.B)]] (res r).1 (res r).2
def L1 (x0:List api_Canonical) (x1:api_Canonical) (z0:Int) (φ:Int->Prop):Prop:=Pt env 55 W B [1,0,1,0] [(0,.sl (x0.map Aa3)),(1,.agg [.lit (.int .u32 x1.Context),.lit (.int .i64 x1.A),.lit (.int .i64 x1.B)]),(3,.box [.lit (.int .u32 x1.Context),.lit (.int .i64 x1.A),.lit (.int .i64 x1.B)]),(7,.lit (.int .i64 ((x0.length:Int)))),(8,.lit (.int .i64 z0))] (Lv env 55 Tryz.f55 2 res φ)
theorem L1_step (x0:List api_Canonical) (x1:api_Canonical) (z0:Int) (φ:Int->Prop) (h :
 (if z0<(x0.length:Int) then
 ∃ a1,lget x0 z0=some a1 /\
 (if (and (x1.Context == a1.Context) (and (x1.A == a1.A) (and (x1.B == a1.B) true)))=true then
 φ z0
 else
 q12_.L1 x0 x1 ((IntKind.wrap .i64 (z0+1))) φ)
 else
 φ ((-1)))):L1 x0 x1 z0 φ:=
 mIn <|
 mAsk 2 h dT dF (fun h=>
 mIx 11 Aa3 h fun a1 h2 h=>
 mBiA 1 h id fls (hd:=(Bch (t:=48) (xs:=[.lit (.int .u32 x1.Context),.lit (.int .i64 x1.A),.lit (.int .i64 x1.B)]) (ys:=[.lit (.int .u32 a1.Context),.lit (.int .i64 a1.A),.lit (.int .i64 a1.B)]) (l:=[(x1.Context == a1.Context),(x1.A == a1.A),(x1.B == a1.B)]))) (fun h=>
 mRet 6 h) fun h=>
 mFin 7 h) fun h=>
 mRet 6 h
theorem enter (x0:List api_Canonical) (x1:api_Canonical) (φ:Int->Prop) (h :
 q12_.L1 x0 x1 0 φ):∃ r,φ r/\C x0 x1 r:=
 mEnt (fd:=Tryz.f55) (body:=B) (V:=W) (res:=res) <|
 mLen 6 Aa3 x0 <|
 mFin 2 h
end q12_
namespace q9_
noncomputable def B:Code:=(Tryz.f25.body).getD .skip
def W:List Nat:=[0,1,3,4]
def res (r:Bool):D×List D:=(.lit (.bool r),[])
def C (x0:List api_Canonical) (x1:api_Canonical) (r:Bool):Prop:=Ret env 25 [.sl (x0.map Aa3),.agg [.lit (.int .u32 x1.Context),.lit (.int .i64 x1.A),.lit (.int .i64 x1.B)]] (res r).1 (res r).2
theorem enter (x0:List api_Canonical) (x1:api_Canonical) (φ:Bool->Prop) (h :
 ∃ r1:Int,q12_.C x0 x1 r1 /\
 φ ((decide (0<=r1)))):∃ r,φ r/\C x0 x1 r:=
 mEnt (fd:=Tryz.f25) (body:=B) (V:=W) (res:=res) <|
 mCal 7 h (fun _ h=>h) fun r1 _ h=>
 mRet 3 h
end q9_
namespace q27_
noncomputable def B:Code:=(Tryz.f24.body).getD .skip
def W:List Nat:=[0,1,2,3,39,1000001]
def res (r:List api_Canonical):D×List D:=(.tup [],[.box [.own (r.map Aa3)]])
def C (x0:api_Canonical) (k1_0 r:List api_Canonical):Prop:=Ret env 24 [.agg [.lit (.int .u32 x0.Context),.lit (.int .i64 x0.A),.lit (.int .i64 x0.B)],.box [.own (k1_0.map Aa3)]] (res r).1 (res r).2
def L1 (x0:api_Canonical) (z0:Bool) (k1_0:List api_Canonical) (φ:List api_Canonical->Prop):Prop:=Pt env 24 W B [1,1,0] [(0,.agg [.lit (.int .u32 x0.Context),.lit (.int .i64 x0.A),.lit (.int .i64 x0.B)]),(1,.alias 1000001 []),(2,.box [.lit (.int .u32 x0.Context),.lit (.int .i64 x0.A),.lit (.int .i64 x0.B)]),(3,.lit (.bool z0)),(1000001,.box [.own (k1_0.map Aa3)])] (Lv env 24 Tryz.f24 2 res φ)
theorem L1_step (x0:api_Canonical) (z0:Bool) (k1_0:List api_Canonical) (φ:List api_Canonical->Prop) (h :
 (if z0=true then
 φ k1_0
 else
 ∃ r3:Bool,q9_.C k1_0 x0 r3 /\
 (if r3=true then
 φ k1_0
 else
 (k1_0.length+1)*24<=140737488355328 /\
 φ ((k1_0++[x0]))))):L1 x0 z0 k1_0 φ:=
 mIn <|
 mAsk 1 h id fls (fun h=>
 mRet 9 h) fun h=>
 Abr 4 h (fun _ h=>h) (hr:=by exact (Agy (Akf (s:=1000001) (ps:=[(0,0)]) (l:=k1_0) (e:=Aa3) (e':=Aa3) (fun _=>rfl) (by kernel_rfl)) (pr_k Akd))) (fun _ h=>
 mRet 4 h) fun _ h=>
 mApp 8 Aa3 k1_0 ([x0]) h fun h=>
 mRet 1 h
theorem enter (x0:api_Canonical) (k1_0:List api_Canonical) (φ:List api_Canonical->Prop) (h :
 (if x0.A=x0.B then
 q27_.L1 x0 true k1_0 φ
 else
 0<=x0.A /\
 (if (bAnd .u32 (shrw .u32 x0.Context x0.A) 1)=1 then
 q27_.L1 x0 true k1_0 φ
 else
 (if 0<=x0.B then
 0<=x0.B /\
 q27_.L1 x0 (((bAnd .u32 (shrw .u32 x0.Context x0.B) 1) == 1)) k1_0 φ
 else
 q27_.L1 x0 false k1_0 φ)))):∃ r,φ r/\C x0 k1_0 r:=
 mEnt (fd:=Tryz.f24) (body:=B) (V:=W) (res:=res) <|
 mAsk 8 h Aay Aax (fun h=>
 mFin 25 h) fun h=>
 h.elim fun h1 h=>
 mBi 5 (Ai5 (t:=46) (q:=.u32) (q':=.i64) (i1:=x0.Context) h1) <|
 mAsk 1 h Aay Aax (fun h=>
 mFin 17 h) fun h=>
 mAsk 4 h dT dF (fun h=>
 h.elim fun h2 h=>
 mBi 5 (Ai5 (t:=46) (q:=.u32) (q':=.i64) (i1:=x0.Context) h2) <|
 mFin 6 h) fun h=>
 mFin 12 h
end q27_
namespace q70_
noncomputable def B:Code:=(Tryz.f112.body).getD .skip
def W:List Nat:=[0,1,4]
def res (r:Bool):D×List D:=(.lit (.bool r),[])
def C (x0 x1:Int) (r:Bool):Prop:=Ret env 112 [.lit (.int .i64 x0),.lit (.int .i64 x1)] (res r).1 (res r).2
theorem enter (x0 x1:Int) (φ:Bool->Prop) (h :
 ∃ r1:Bool,q58_.C x0 r1 /\
 (if r1=true then
 ∃ r2:Bool,q58_.C x1 r2 /\
 (if r2=true then
 φ ((decide (x0<x1)))
 else
 φ true)
 else
 φ ((decide (x0<x1))))):∃ r,φ r/\C x0 x1 r:=
 mEnt (fd:=Tryz.f112) (body:=B) (V:=W) (res:=res) <|
 Abr 5 h (fun _ h=>h) (fun _ h=>
 Abr 2 h (fun _ h=>h) (fun _ h=>
 mRet 9 h) fun _ h=>
 mRet 9 h) fun _ h=>
 mRet 12 h
end q70_
namespace q16_
noncomputable def B:Code:=(Tryz.f106.body).getD .skip
def W:List Nat:=[0,1,2,6,7,12,30,1000000]
def res (r:List Int):D×List D:=(.tup [],[.own (r.map (eI .i64))])
def C (x1 x2:Int) (k0_0 r:List Int):Prop:=Ret env 106 [.own (k0_0.map (eI .i64)),.lit (.int .i64 x1),.lit (.int .i64 x2)] (res r).1 (res r).2
def L1 (x1 x2 z0:Int) (k0_0:List Int) (φ:List Int->Prop):Prop:=Pt env 106 W B [1,0] [(0,.alias 1000000 []),(1,.lit (.int .i64 x1)),(2,.lit (.int .i64 x2)),(6,.lit (.int .i64 z0)),(1000000,.own (k0_0.map (eI .i64)))] (Lv env 106 Tryz.f106 3 res φ)
def L2 (x1 x2:Int) (z0 z1:Int) (k0_0:List Int) (φ:List Int->Prop):Prop:=Pt env 106 W B [1,0,0,1,0,0,1,0] [(0,.alias 1000000 []),(1,.lit (.int .i64 x1)),(2,.lit (.int .i64 x2)),(6,.lit (.int .i64 z0)),(7,.lit (.int .i64 z1)),(1000000,.own (k0_0.map (eI .i64)))] (Lv env 106 Tryz.f106 3 res φ)
def L3 (x1 x2 z0:Int) (k0_0:List Int) (φ:List Int->Prop):Prop:=Pt env 106 W B [1,0,0,1,1] [(0,.alias 1000000 []),(1,.lit (.int .i64 x1)),(2,.lit (.int .i64 x2)),(6,.lit (.int .i64 z0)),(1000000,.own (k0_0.map (eI .i64)))] (Lv env 106 Tryz.f106 3 res φ)
theorem L1_step (x1 x2 z0:Int) (k0_0:List Int) (φ:List Int->Prop) (h :
 (if z0<x2 then
 q16_.L2 x1 x2 z0 z0 k0_0 φ
 else
 φ k0_0)):L1 x1 x2 z0 k0_0 φ:=
 mIn <|
 mAsk 4 h dT dF (fun h=>
 mFin 7 h) fun h=>
 mRet 2 h
theorem L2_step (x1 x2:Int) (z0 z1:Int) (k0_0:List Int) (φ:List Int->Prop) (h :
 (if x1<z1 then
 ∃ a1,lget k0_0 z1=some a1 /\
 ∃ a3,lget k0_0 ((IntKind.wrap .i64 (z1-1)))=some a3 /\
 ∃ r5:Bool,q70_.C a1 a3 r5 /\
 (if r5=true then
 ∃ a6,lget ((lset k0_0 z1 a3)) ((IntKind.wrap .i64 (z1-1)))=some a6 /\
 q16_.L2 x1 x2 z0 ((IntKind.wrap .i64 (z1-1))) ((lset (lset k0_0 z1 a3) (IntKind.wrap .i64 (z1-1)) a1)) φ
 else
 q16_.L3 x1 x2 z0 k0_0 φ)
 else
 q16_.L3 x1 x2 z0 k0_0 φ)):L2 x1 x2 z0 z1 k0_0 φ:=
 mIn <|
 mAsk 4 h dT dF (fun h=>
 mIy 3 (eI .i64) h fun a1 h2 h=>
 mLd 0 (eI .i64) h2 <|
 mIy 3 (eI .i64) h fun a3 h4 h=>
 mLd 0 (eI .i64) h4 <|
 Abr 0 h (fun _ h=>h) (fun _ h=>
 mIyf 13 (eI .i64) h4 <|
 mLd 0 (eI .i64) h4 <|
 mIyf 2 (eI .i64) h2 <|
 mLd 0 (eI .i64) h2 <|
 mIyf 0 (eI .i64) h2 <|
 Bh0 0 (eI .i64) a3 h2 <|
 mIy 0 (eI .i64) h fun a6 h7 h=>
 mSto 0 (eI .i64) a1 h7 <|
 mFin 6 h) fun _ h=>
 mFin 4 h) fun h=>
 mFin 15 h
theorem L3_step (x1 x2 z0:Int) (k0_0:List Int) (φ:List Int->Prop) (h :
 q16_.L1 x1 x2 ((IntKind.wrap .i64 (z0+1))) k0_0 φ):L3 x1 x2 z0 k0_0 φ:=
 mIn <|
 mFin 5 h
theorem enter (x1 x2:Int) (k0_0:List Int) (φ:List Int->Prop) (h :
 q16_.L1 x1 x2 ((IntKind.wrap .i64 (x1+1))) k0_0 φ):∃ r,φ r/\C x1 x2 k0_0 r:=
 mEnt (fd:=Tryz.f106) (body:=B) (V:=W) (res:=res) <|
 mFin 5 h
end q16_
namespace q20_
noncomputable def B:Code:=(Tryz.f85.body).getD .skip
def W:List Nat:=[0,1,2,3,8,9,10,11,12,13,14,15,16,17,18,23,29,35,50,68,72,87,113,1000000]
def res (r:List Int):D×List D:=(.tup [],[.own (r.map (eI .i64))])
def C (x1 x2 x3:Int) (k0_0 r:List Int):Prop:=Ret env 85 [.own (k0_0.map (eI .i64)),.lit (.int .i64 x1),.lit (.int .i64 x2),.lit (.int .i64 x3)] (res r).1 (res r).2
def L1 (x1 x2 x3:Int) (k0_0:List Int) (φ:List Int->Prop):Prop:=Pt env 85 W B [1,1,0] [(0,.alias 1000000 []),(1,.lit (.int .i64 x1)),(2,.lit (.int .i64 x2)),(3,.lit (.int .i64 x3)),(8,.lit (.bool true)),(9,.lit (.bool true)),(1000000,.own (k0_0.map (eI .i64)))] (Lv env 85 Tryz.f85 4 res φ)
theorem L1_step (x1 x2 x3:Int) (k0_0:List Int) (φ:List Int->Prop) (h :
 (if (IntKind.wrap .i64 (x2-x1))<=12 then
 ∃ r1:List Int,q16_.C x1 x2 k0_0 r1 /\
 φ r1
 else
 (if x3=0 then
 False
 else
 False))):L1 x1 x2 x3 k0_0 φ:=
 mIn <|
 mAsk 9 h dT dF (fun h=>
 mCal 6 h (fun _ h=>h) (hf:=(fun _=>Alw (Aci Ab9) (Ab8 (e:=(eI .i64)) (fun _=>rfl)))) fun r1 _ h=>
 mRet 1 h) fun h=>
 mAsk 5 h Aay Aax (fun h=>
 h.elim) fun h=>
 h.elim
theorem enter (x1 x2 x3:Int) (k0_0:List Int) (φ:List Int->Prop) (h :
 q20_.L1 x1 x2 x3 k0_0 φ):∃ r,φ r/\C x1 x2 x3 k0_0 r:=
 mEnt (fd:=Tryz.f85) (body:=B) (V:=W) (res:=res) <|
 mFin 6 h
end q20_
namespace q28_
noncomputable def B:Code:=(Tryz.f57.body).getD .skip
def W:List Nat:=[0,2,1000000]
def res (r:List Int):D×List D:=(.tup [],[.own (r.map (eI .i64))])
def C (k0_0 r:List Int):Prop:=Ret env 57 [.own (k0_0.map (eI .i64))] (res r).1 (res r).2
theorem enter (k0_0:List Int) (φ:List Int->Prop) (h :
 ∃ r1:Int,q65_.C ((IntKind.wrap .u64 (k0_0.length:Int))) r1 /\
 ∃ r2:List Int,q20_.C 0 ((k0_0.length:Int)) r1 k0_0 r2 /\
 φ r2):∃ r,φ r/\C k0_0 r:=
 mEnt (fd:=Tryz.f57) (body:=B) (V:=W) (res:=res) <|
 mLen 2 (eI .i64) k0_0 <|
 mCal 7 h (fun _ h=>h) fun r1 _ h=>
 mCal 0 h (fun _ h=>h) (hf:=(fun _=>Alw (Aci Ab9) (Ab8 (e:=(eI .i64)) (fun _=>rfl)))) fun r2 _ h=>
 mRet 0 h
end q28_
namespace q10_
noncomputable def B:Code:=(Tryz.f26.body).getD .skip
def W:List Nat:=[0,2,3]
def res (r:List Int):D×List D:=(.own (r.map (eI .i64)),[])
def C (k0_0 r:List Int):Prop:=Ret env 26 [.fn 58 [.ref [.sl (k0_0.map (eI .i64))]]] (res r).1 (res r).2
theorem enter (k0_0:List Int) (φ:List Int->Prop) (h :
 k0_0.length*8<=140737488351232 /\
 ∃ r2:List Int,q28_.C k0_0 r2 /\
 φ r2):∃ r,φ r/\C k0_0 r:=
 mEnt (fd:=Tryz.f26) (body:=B) (V:=W) (res:=res) <|
 h.elim fun h1 h=>
 An5 5 (show Ret env 56 [.fn 58 [.ref [.sl (k0_0.map (eI .i64))]]] (.own (k0_0.map (eI .i64))) [] from Avu (b:=8) (e:=(eI .i64)) (l:=k0_0) (by kernel_rfl) (fun _=>rfl) h1) (hf:=(Aau (Ab8 (e:=(eI .i64)) (fun _=>rfl)) rfl)) <|
 mCal 4 h (fun _ h=>h) (hf:=(fun _=>Alw (Aci Ab9) (Ab8 (e:=(eI .i64)) (fun _=>rfl)))) fun r2 _ h=>
 mRet 5 h
end q10_
namespace q34_
noncomputable def B:Code:=(Tryz.f8.body).getD .skip
def W:List Nat:=[0,1,2,3,4,5,6,7,9,10,11,12,13,16,26,27,28,29,39,40,41,42,46,47,48,49]
def res (r:List api_Canonical×Int):D×List D:=(.tup [.own (r.1.map Aa3),.lit (.int .i64 r.2)],[])
def C (x0:api_OD) (r:List api_Canonical×Int):Prop:=Ret env 8 [.agg [.sl (x0.Lhs.map (eI .i64)),.sl (x0.Rhs.map (eI .i64))]] (res r).1 (res r).2
def L1 (r2 r3:List Int) (z0:List api_Canonical) (r4:List Int) (z1:Int) (φ:List api_Canonical×Int->Prop):Prop:=Pt env 8 W B [1,1,1,1,1,0,1,0] [(4,.sl (r2.map (eI .i64))),(5,.sl (r3.map (eI .i64))),(6,.box [.own (z0.map Aa3)]),(7,.fn 24 [.alias 6 []]),(26,.own (r4.map (eI .i64))),(27,.lit (.int .i64 ((r4.length:Int)))),(28,.lit (.int .i64 z1))] (Lv env 8 Tryz.f8 1 res φ)
def L2 (r2 r3:List Int) (z0:List api_Canonical) (z1:Int) (φ:List api_Canonical×Int->Prop):Prop:=Pt env 8 W B [1,1,1,1,1,1,0,1,0] [(4,.sl (r2.map (eI .i64))),(5,.sl (r3.map (eI .i64))),(6,.box [.own (z0.map Aa3)]),(7,.fn 24 [.alias 6 []]),(39,.sl (r2.map (eI .i64))),(40,.lit (.int .i64 ((r2.length:Int)))),(41,.lit (.int .i64 z1))] (Lv env 8 Tryz.f8 1 res φ)
def L3 (r2 r3:List Int) (z0:List api_Canonical) (z1 a9:Int) (z2 z3:Int) (φ:List api_Canonical×Int->Prop):Prop:=Pt env 8 W B [1,1,1,1,1,1,0,1,0,0,1,1,0,0,1,1,0] [(4,.sl (r2.map (eI .i64))),(5,.sl (r3.map (eI .i64))),(6,.box [.own (z0.map Aa3)]),(7,.fn 24 [.alias 6 []]),(10,.lit (.int .i64 z1)),(11,.lit (.int .i64 a9)),(39,.sl (r2.map (eI .i64))),(40,.lit (.int .i64 ((r2.length:Int)))),(41,.lit (.int .i64 z2)),(46,.sl (r3.map (eI .i64))),(47,.lit (.int .i64 ((r3.length:Int)))),(48,.lit (.int .i64 z3))] (Lv env 8 Tryz.f8 1 res φ)
theorem L1_step (r2 r3:List Int) (z0:List api_Canonical) (r4:List Int) (z1:Int) (φ:List api_Canonical×Int->Prop) (h :
 (if z1<(r4.length:Int) then
 ∃ a5,lget r4 z1=some a5 /\
 ∃ r7:Int,q69_.C r2 r7 /\
 ∃ r8:List api_Canonical,q27_.C ((⟨r7,a5,(-1)⟩:api_Canonical)) z0 r8 /\
 q34_.L1 r2 r3 r8 r4 ((IntKind.wrap .i64 (z1+1))) φ
 else
 q34_.L2 r2 r3 z0 0 φ)):L1 r2 r3 z0 r4 z1 φ:=
 mIn <|
 mAsk 2 h dT dF (fun h=>
 mIy 4 (eI .i64) h fun a5 h6 h=>
 mLd 0 (eI .i64) h6 <|
 mCal 5 h (fun _ h=>h) fun r7 _ h=>
 mCal 2 h (fun _ h=>h) (hf:=(fun _=>Agp)) fun r8 _ h=>
 mFin 5 h) fun h=>
 mLen 5 (eI .i64) r2 <|
 mFin 2 h
theorem L2_step (r2 r3:List Int) (z0:List api_Canonical) (z1:Int) (φ:List api_Canonical×Int->Prop) (h :
 (if z1<(r2.length:Int) then
 ∃ a9,lget r2 z1=some a9 /\
 q34_.L3 r2 r3 z0 z1 a9 z1 0 φ
 else
 φ ((z0,0)))):L2 r2 r3 z0 z1 φ:=
 mIn <|
 mAsk 2 h dT dF (fun h=>
 mIx 5 (eI .i64) h fun a9 h10 h=>
 mLen 6 (eI .i64) r3 <|
 mFin 2 h) fun h=>
 mRet 8 h
theorem L3_step (r2 r3:List Int) (z0:List api_Canonical) (z1 a9:Int) (z2 z3:Int) (φ:List api_Canonical×Int->Prop) (h :
 (if z3<(r3.length:Int) then
 ∃ a11,lget r3 z3=some a11 /\
 0<=z1 /\
 (0<=z1.toNat/\z1.toNat<=r2.length) /\
 ∃ r15:Int,q69_.C ((List.take (z1.toNat-0) r2)) r15 /\
 0<=z3 /\
 (0<=z3.toNat/\z3.toNat<=r3.length) /\
 ∃ r18:Int,q69_.C ((List.take (z3.toNat-0) r3)) r18 /\
 ∃ r19:List api_Canonical,q27_.C ((⟨(bOr .u32 r15 r18),(imin a9 a11),(imax a9 a11)⟩:api_Canonical)) z0 r19 /\
 q34_.L3 r2 r3 r19 z1 a9 z2 ((IntKind.wrap .i64 (z3+1))) φ
 else
 q34_.L2 r2 r3 z0 ((IntKind.wrap .i64 (z2+1))) φ)):L3 r2 r3 z0 z1 a9 z2 z3 φ:=
 mIn <|
 mAsk 2 h dT dF (fun h=>
 mIx 5 (eI .i64) h fun a11 h12 h=>
 h.elim fun h13 h=>
 h.elim fun h14 h=>
 mVl 8 (Aet (t:=35) (x:=(.tmp 54)) (lo:=none) (hi:=(some (.tmp 55))) (lo':=none) (hi':=some (z1).toNat) (e:=(eI .i64)) (l:=r2) (et:=3) (k:=1) (by kernel_rfl) (by kernel_rfl) Acu (Acv (i:=z1) (q:=.i64) (by kernel_rfl) h13) (by kernel_rfl) (by kernel_rfl) (fun _=>rfl) (by kernel_rfl) h14.1 h14.2) <|
 mLo 0 h (fun _ h=>h) fun r15 _ h=>
 h.elim fun h16 h=>
 h.elim fun h17 h=>
 mVl 2 (Aet (t:=35) (x:=(.tmp 58)) (lo:=none) (hi:=(some (.tmp 59))) (lo':=none) (hi':=some (z3).toNat) (e:=(eI .i64)) (l:=r3) (et:=3) (k:=1) (by kernel_rfl) (by kernel_rfl) Acu (Acv (i:=z3) (q:=.i64) (by kernel_rfl) h16) (by kernel_rfl) (by kernel_rfl) (fun _=>rfl) (by kernel_rfl) h17.1 h17.2) <|
 mLo 0 h (fun _ h=>h) fun r18 _ h=>
 mCal 8 h (fun _ h=>h) (hf:=(fun _=>Agp)) fun r19 _ h=>
 mFin 5 h) fun h=>
 mFin 7 h
theorem enter (x0:api_OD) (φ:List api_Canonical×Int->Prop) (h :
 ∃ r1:Bool,q55_.C 16 x0 r1 /\
 (if r1=true then
 ∃ r2:List Int,q63_.C x0.Lhs r2 /\
 ∃ r3:List Int,q63_.C x0.Rhs r3 /\
 ∃ r4:List Int,q10_.C r3 r4 /\
 q34_.L1 r2 r3 ([]) r4 0 φ
 else
 φ (([],1)))):∃ r,φ r/\C x0 r:=
 mEnt (fd:=Tryz.f8) (body:=B) (V:=W) (res:=res) <|
 Abr 7 h (fun _ h=>h) (fun _ h=>
 mLoE 7 h (fun _ h=>h) (fun (r2:List Int)=>Awc (l:=r2) (e:=(eI .i64)) (e':=(eI .i64)) rfl (fun _=>rfl)) (hf:=(fun _=>Aoi (Ab8 (e:=(eI .i64)) (fun _=>rfl)))) fun r2 _ h=>
 Aq0 2 h (fun _ h=>h) (fun (r3:List Int)=>Awc (l:=r3) (e:=(eI .i64)) (e':=(eI .i64)) rfl (fun _=>rfl)) (hf:=(fun _=>Aau (Ab8 (e:=(eI .i64)) (fun _=>rfl)) rfl)) fun r3 _ h=>
 An5 12 (show Ret env 27 [.sl (r3.map (eI .i64))] (.fn 58 [.ref [.sl (r3.map (eI .i64))]]) [] from Axx (by kernel_rfl)) (hf:=(Agp)) <|
 mCal 0 h (fun _ h=>h) (hf:=(fun _=>Aau (Ab8 (e:=(eI .i64)) (fun _=>rfl)) rfl)) fun r4 _ h=>
 mLen 0 (eI .i64) r4 <|
 mFin 2 h) fun _ h=>
 mRet 7 h
end q34_
namespace q29_
noncomputable def B:Code:=(Tryz.f29.body).getD .skip
def W:List Nat:=[0,1,3]
def res (r:Bool):D×List D:=(.lit (.bool r),[])
def C (x0 k1_0:Int) (k1_1 k1_2:Int) (r:Bool):Prop:=Ret env 29 [.lit (.int .i64 x0),.ref [.lit (.int .u32 k1_0),.lit (.int .i64 k1_1),.lit (.int .i64 k1_2)]] (res r).1 (res r).2
theorem enter (x0 k1_0:Int) (k1_1 k1_2:Int) (φ:Bool->Prop) (h :
 (if 0<=k1_1 then
 (if k1_1<x0 then
 (if (-1)<=k1_2 then
 (if k1_2<x0 then
 0<=x0 /\
 φ (((shrw .u32 k1_0 x0) == 0))
 else
 φ false)
 else
 φ false)
 else
 φ false)
 else
 φ false)):∃ r,φ r/\C x0 k1_0 k1_1 k1_2 r:=
 mEnt (fd:=Tryz.f29) (body:=B) (V:=W) (res:=res) <|
 mAsk 6 h dT dF (fun h=>
 mAsk 4 h dT dF (fun h=>
 mAsk 4 h dT dF (fun h=>
 mAsk 5 h dT dF (fun h=>
 h.elim fun h1 h=>
 mBi 5 (Ai5 (t:=46) (q:=.u32) (q':=.i64) (i1:=k1_0) h1) <|
 mRet 4 h) fun h=>
 mRet 10 h) fun h=>
 mRet 16 h) fun h=>
 mRet 21 h) fun h=>
 mRet 26 h
end q29_
namespace q14_
noncomputable def B:Code:=(Tryz.f19.body).getD .skip
def W:List Nat:=[0,1,2,4,5,9,16]
def res (r:Int):D×List D:=(.lit (.int .i64 r),[])
def C (x0:api_Table) (k1_0 k1_1:Int) (k1_2 r:Int):Prop:=Ret env 19 [.agg [.lit (.string x0.Name),.sl (x0.Attrs.map eS),.sl (x0.Rows.map Aa1)],.fn 29 [.ref [.lit (.int .u32 k1_0),.lit (.int .i64 k1_1),.lit (.int .i64 k1_2)]]] (res r).1 (res r).2
theorem enter (x0:api_Table) (k1_0 k1_1 k1_2:Int) (φ:Int->Prop) (h :
 ∃ r1:Int,q73_.C x0 r1 /\
 (if r1=0 then
 ∃ r2:Bool,q29_.C ((x0.Attrs.length:Int)) k1_0 k1_1 k1_2 r2 /\
 (if r2=true then
 φ 0
 else
 φ 1)
 else
 φ r1)):∃ r,φ r/\C x0 k1_0 k1_1 k1_2 r:=
 mEnt (fd:=Tryz.f19) (body:=B) (V:=W) (res:=res) <|
 mCal 6 h (fun _ h=>h) fun r1 _ h=>
 Acq 4 h Acf Ace (fun h=>
 mRet 6 h) fun h=>
 mLen 7 eS x0.Attrs <|
 Abr 0 h (fun _ h=>h) (fun _ h=>
 mRet 7 h) fun _ h=>
 mRet 6 h
end q14_
namespace q35_
noncomputable def B:Code:=(Tryz.f9.body).getD .skip
def W:List Nat:=[0,1,2,3,4,5,6,7,8,9,10,11,13,14,20,24,25,26,33,40,41,42,43,51,52,53,54,61,104]
def res (r:Bool×Int):D×List D:=(.tup [.lit (.bool r.1),.lit (.int .i64 r.2)],[])
def C (x0:api_Table) (x1:api_Canonical) (r:Bool×Int):Prop:=Ret env 9 [.agg [.lit (.string x0.Name),.sl (x0.Attrs.map eS),.sl (x0.Rows.map Aa1)],.agg [.lit (.int .u32 x1.Context),.lit (.int .i64 x1.A),.lit (.int .i64 x1.B)]] (res r).1 (res r).2
def L1 (x0:api_Table) (x1:api_Canonical) (z0:List Int) (z1:Int) (φ:Bool×Int->Prop):Prop:=Pt env 9 W B [1,1,1,1,0,1,0] [(0,.agg [.lit (.string x0.Name),.sl (x0.Attrs.map eS),.sl (x0.Rows.map Aa1)]),(1,.agg [.lit (.int .u32 x1.Context),.lit (.int .i64 x1.A),.lit (.int .i64 x1.B)]),(2,.box [.lit (.string x0.Name),.sl (x0.Attrs.map eS),.sl (x0.Rows.map Aa1)]),(3,.box [.lit (.int .u32 x1.Context),.lit (.int .i64 x1.A),.lit (.int .i64 x1.B)]),(8,.own (z0.map (eI .i64))),(24,.lit (.int .i64 ((x0.Attrs.length:Int)))),(25,.lit (.int .i64 z1))] (Lv env 9 Tryz.f9 2 res φ)
def L2 (x0:api_Table) (x1:api_Canonical) (z0:List Int) (z1:Int) (φ:Bool×Int->Prop):Prop:=Pt env 9 W B [1,1,1,1,0,1,0,0,1,1,1] [(0,.agg [.lit (.string x0.Name),.sl (x0.Attrs.map eS),.sl (x0.Rows.map Aa1)]),(1,.agg [.lit (.int .u32 x1.Context),.lit (.int .i64 x1.A),.lit (.int .i64 x1.B)]),(2,.box [.lit (.string x0.Name),.sl (x0.Attrs.map eS),.sl (x0.Rows.map Aa1)]),(3,.box [.lit (.int .u32 x1.Context),.lit (.int .i64 x1.A),.lit (.int .i64 x1.B)]),(8,.own (z0.map (eI .i64))),(24,.lit (.int .i64 ((x0.Attrs.length:Int)))),(25,.lit (.int .i64 z1))] (Lv env 9 Tryz.f9 2 res φ)
def L3 (x0:api_Table) (x1:api_Canonical) (z0:List Int) (z1:Int) (φ:Bool×Int->Prop):Prop:=Pt env 9 W B [1,1,1,1,1,0,1,0] [(0,.agg [.lit (.string x0.Name),.sl (x0.Attrs.map eS),.sl (x0.Rows.map Aa1)]),(1,.agg [.lit (.int .u32 x1.Context),.lit (.int .i64 x1.A),.lit (.int .i64 x1.B)]),(2,.box [.lit (.string x0.Name),.sl (x0.Attrs.map eS),.sl (x0.Rows.map Aa1)]),(3,.box [.lit (.int .u32 x1.Context),.lit (.int .i64 x1.A),.lit (.int .i64 x1.B)]),(8,.own (z0.map (eI .i64))),(40,.sl (x0.Rows.map Aa1)),(41,.lit (.int .i64 ((x0.Rows.length:Int)))),(42,.lit (.int .i64 z1))] (Lv env 9 Tryz.f9 2 res φ)
def L4 (x0:api_Table) (x1:api_Canonical) (z0:List Int) (a4:api_Row) (z1:Int) (z2:List api_Row) (z3 z4:Int) (φ:Bool×Int->Prop):Prop:=Pt env 9 W B [1,1,1,1,1,0,1,0,0,1,1,0,0,1,1,0] [(0,.agg [.lit (.string x0.Name),.sl (x0.Attrs.map eS),.sl (x0.Rows.map Aa1)]),(1,.agg [.lit (.int .u32 x1.Context),.lit (.int .i64 x1.A),.lit (.int .i64 x1.B)]),(2,.box [.lit (.string x0.Name),.sl (x0.Attrs.map eS),.sl (x0.Rows.map Aa1)]),(3,.box [.lit (.int .u32 x1.Context),.lit (.int .i64 x1.A),.lit (.int .i64 x1.B)]),(8,.own (z0.map (eI .i64))),(11,.box [.lit (.int .i64 a4.ID),.sl (a4.Values.map Aa2)]),(40,.sl (x0.Rows.map Aa1)),(41,.lit (.int .i64 ((x0.Rows.length:Int)))),(42,.lit (.int .i64 z1)),(51,.sl (z2.map Aa1)),(52,.lit (.int .i64 z3)),(53,.lit (.int .i64 z4))] (Lv env 9 Tryz.f9 2 res φ)
def L5 (x0:api_Table) (x1:api_Canonical) (z0:List Int) (a4:api_Row) (z1:Int) (z2:List api_Row) (z3 z4:Int) (φ:Bool×Int->Prop):Prop:=Pt env 9 W B [1,1,1,1,1,0,1,0,0,1,1,0,0,1,1,0,0,1,1,1] [(0,.agg [.lit (.string x0.Name),.sl (x0.Attrs.map eS),.sl (x0.Rows.map Aa1)]),(1,.agg [.lit (.int .u32 x1.Context),.lit (.int .i64 x1.A),.lit (.int .i64 x1.B)]),(2,.box [.lit (.string x0.Name),.sl (x0.Attrs.map eS),.sl (x0.Rows.map Aa1)]),(3,.box [.lit (.int .u32 x1.Context),.lit (.int .i64 x1.A),.lit (.int .i64 x1.B)]),(8,.own (z0.map (eI .i64))),(11,.box [.lit (.int .i64 a4.ID),.sl (a4.Values.map Aa2)]),(40,.sl (x0.Rows.map Aa1)),(41,.lit (.int .i64 ((x0.Rows.length:Int)))),(42,.lit (.int .i64 z1)),(51,.sl (z2.map Aa1)),(52,.lit (.int .i64 z3)),(53,.lit (.int .i64 z4))] (Lv env 9 Tryz.f9 2 res φ)
theorem L1_step (x0:api_Table) (x1:api_Canonical) (z0:List Int) (z1:Int) (φ:Bool×Int->Prop) (h :
 (if z1<(x0.Attrs.length:Int) then
 0<=z1 /\
 (if (bAnd .u32 (shrw .u32 x1.Context z1) 1)=1 then
 (z0.length+1)*8<=140737488355328 /\
 q35_.L2 x0 x1 ((z0++[z1])) z1 φ
 else
 q35_.L2 x0 x1 z0 z1 φ)
 else
 q35_.L3 x0 x1 z0 0 φ)):L1 x0 x1 z0 z1 φ:=
 mIn <|
 mAsk 2 h dT dF (fun h=>
 h.elim fun h2 h=>
 mBi 11 (Ai5 (t:=46) (q:=.u32) (q':=.i64) (i1:=x1.Context) h2) <|
 mAsk 1 h Aay Aax (fun h=>
 mApp 6 (eI .i64) z0 ([z1]) h fun h=>
 mFin 2 h) fun h=>
 mFin 3 h) fun h=>
 mLen 6 Aa1 x0.Rows <|
 mFin 2 h
theorem L2_step (x0:api_Table) (x1:api_Canonical) (z0:List Int) (z1:Int) (φ:Bool×Int->Prop) (h :
 q35_.L1 x0 x1 z0 ((IntKind.wrap .i64 (z1+1))) φ):L2 x0 x1 z0 z1 φ:=
 mIn <|
 mFin 4 h
theorem L3_step (x0:api_Table) (x1:api_Canonical) (z0:List Int) (z1:Int) (φ:Bool×Int->Prop) (h :
 (if z1<(x0.Rows.length:Int) then
 ∃ a4,lget x0.Rows z1=some a4 /\
 0<=(IntKind.wrap .i64 (z1+1)) /\
 (((IntKind.wrap .i64 (z1+1))).toNat<=x0.Rows.length/\x0.Rows.length<=x0.Rows.length) /\
 q35_.L4 x0 x1 z0 a4 z1 ((List.take (x0.Rows.length-((IntKind.wrap .i64 (z1+1))).toNat) (List.drop ((IntKind.wrap .i64 (z1+1))).toNat x0.Rows))) (((List.take (x0.Rows.length-((IntKind.wrap .i64 (z1+1))).toNat) (List.drop ((IntKind.wrap .i64 (z1+1))).toNat x0.Rows)).length:Int)) 0 φ
 else
 φ ((true,0)))):L3 x0 x1 z0 z1 φ:=
 mIn <|
 mAsk 2 h dT dF (fun h=>
 mIx 5 Aa1 h fun a4 h5 h=>
 h.elim fun h6 h=>
 h.elim fun h7 h=>
 mVl 10 (Aet (t:=29) (x:=(.tmp 48)) (lo:=(some (.tmp 50))) (hi:=none) (lo':=some ((IntKind.wrap .i64 (z1+1))).toNat) (hi':=none) (e:=Aa1) (l:=x0.Rows) (et:=85) (k:=2) (by kernel_rfl) (by kernel_rfl) (Acv (i:=(IntKind.wrap .i64 (z1+1))) (q:=.i64) (by kernel_rfl) h6) Acu (by kernel_rfl) (by kernel_rfl) (fun _=>rfl) (by kernel_rfl) h7.1 h7.2) <|
 mLen 0 Aa1 ((List.take (x0.Rows.length-((IntKind.wrap .i64 (z1+1))).toNat) (List.drop ((IntKind.wrap .i64 (z1+1))).toNat x0.Rows))) <|
 mFin 2 h) fun h=>
 mRet 7 h
theorem L4_step (x0:api_Table) (x1:api_Canonical) (z0:List Int) (a4:api_Row) (z1:Int) (z2:List api_Row) (z3 z4:Int) (φ:Bool×Int->Prop) (h :
 (if z4<z3 then
 ∃ a8,lget z2 z4=some a8 /\
 ∃ r10:Int,q41_.C a4 a8 z0 r10 /\
 (if r10=0 then
 ∃ a11,lget a4.Values x1.A=some a11 /\
 ∃ a13,lget a8.Values x1.A=some a13 /\
 ∃ r15:Int,q59_.C a11 a13 r15 /\
 (if x1.B<0 then
 (if r15=0 then
 (if 0<=x1.B then
 ∃ a16,lget a4.Values x1.B=some a16 /\
 ∃ a18,lget a8.Values x1.B=some a18 /\
 ∃ r20:Int,q59_.C a16 a18 r20 /\
 (if (IntKind.wrap .i64 (r15*r20))<0 then
 φ ((false,0))
 else
 q35_.L5 x0 x1 z0 a4 z1 z2 z3 z4 φ)
 else
 q35_.L5 x0 x1 z0 a4 z1 z2 z3 z4 φ)
 else
 φ ((false,0)))
 else
 (if 0<=x1.B then
 ∃ a21,lget a4.Values x1.B=some a21 /\
 ∃ a23,lget a8.Values x1.B=some a23 /\
 ∃ r25:Int,q59_.C a21 a23 r25 /\
 (if (IntKind.wrap .i64 (r15*r25))<0 then
 φ ((false,0))
 else
 q35_.L5 x0 x1 z0 a4 z1 z2 z3 z4 φ)
 else
 q35_.L5 x0 x1 z0 a4 z1 z2 z3 z4 φ))
 else
 q35_.L5 x0 x1 z0 a4 z1 z2 z3 z4 φ)
 else
 q35_.L3 x0 x1 z0 ((IntKind.wrap .i64 (z1+1))) φ)):L4 x0 x1 z0 a4 z1 z2 z3 z4 φ:=
 mIn <|
 mAsk 2 h dT dF (fun h=>
 mIx 4 Aa1 h fun a8 h9 h=>
 mCal 8 h (fun _ h=>h) (hr:=by exact (pr_k (pr_k (Agy (Akf (s:=8) (ps:=[]) (l:=z0) (e:=(eI .i64)) (e':=(eI .i64)) (fun _=>rfl) (by kernel_rfl)) Akd)))) fun r10 _ h=>
 Acq 0 h Acf Ace (fun h=>
 mFin 3 h) fun h=>
 mIx 8 Aa2 h fun a11 h12 h=>
 mIx 5 Aa2 h fun a13 h14 h=>
 mCal 1 h (fun _ h=>h) fun r15 _ h=>
 mAsk 5 h dT dF (fun h=>
 Acq 2 h Acf Ace (fun h=>
 mRet 30 h) fun h=>
 mAsk 4 h dT dF (fun h=>
 mIx 6 Aa2 h fun a16 h17 h=>
 mIx 5 Aa2 h fun a18 h19 h=>
 mLo 1 h (fun _ h=>h) fun r20 _ h=>
 mAsk 1 h dT dF (fun h=>
 mRet 8 h) fun h=>
 mFin 5 h) fun h=>
 mFin 22 h) fun h=>
 mAsk 7 h dT dF (fun h=>
 mIx 6 Aa2 h fun a21 h22 h=>
 mIx 5 Aa2 h fun a23 h24 h=>
 mLo 1 h (fun _ h=>h) fun r25 _ h=>
 mAsk 1 h dT dF (fun h=>
 mRet 8 h) fun h=>
 mFin 5 h) fun h=>
 mFin 22 h) fun h=>
 mFin 7 h
theorem L5_step (x0:api_Table) (x1:api_Canonical) (z0:List Int) (a4:api_Row) (z1:Int) (z2:List api_Row) (z3 z4:Int) (φ:Bool×Int->Prop) (h :
 q35_.L4 x0 x1 z0 a4 z1 z2 z3 ((IntKind.wrap .i64 (z4+1))) φ):L5 x0 x1 z0 a4 z1 z2 z3 z4 φ:=
 mIn <|
 mFin 4 h
theorem enter (x0:api_Table) (x1:api_Canonical) (φ:Bool×Int->Prop) (h :
 ∃ r1:Int,q14_.C x0 x1.Context x1.A x1.B r1 /\
 (if r1=0 then
 q35_.L1 x0 x1 ([]) 0 φ
 else
 φ ((false,r1)))):∃ r,φ r/\C x0 x1 r:=
 mEnt (fd:=Tryz.f9) (body:=B) (V:=W) (res:=res) <|
 mCal 13 h (fun _ h=>h) fun r1 _ h=>
 Acq 4 h Acf Ace (fun h=>
 mRet 7 h) fun h=>
 mLen 9 eS x0.Attrs <|
 mFin 2 h
end q35_
namespace q53_
noncomputable def B:Code:=(Tryz.f94.body).getD .skip
def W:List Nat:=[0,1,2,3,4,6,7,9,17,22,23,24,25,37,41,42,43,44,61]
def res (r:Bool):D×List D:=(.lit (.bool r),[])
def C (x0:api_Partition) (r:Bool):Prop:=Ret env 94 [.agg [.lit (.int .i64 x0.Rows),.sl (x0.Classes.map (eSl (eI .i64)))]] (res r).1 (res r).2
def L1 (x0:api_Partition) (z0:List Bool) (z1 z2:Int) (φ:Bool->Prop):Prop:=Pt env 94 W B [1,1,1,1,0,1,0] [(0,.agg [.lit (.int .i64 x0.Rows),.sl (x0.Classes.map (eSl (eI .i64)))]),(1,.box [.lit (.int .i64 x0.Rows),.sl (x0.Classes.map (eSl (eI .i64)))]),(3,.own (z0.map eB)),(4,.lit (.int .i64 z1)),(22,.sl (x0.Classes.map (eSl (eI .i64)))),(23,.lit (.int .i64 ((x0.Classes.length:Int)))),(24,.lit (.int .i64 z2))] (Lv env 94 Tryz.f94 1 res φ)
def L2 (x0:api_Partition) (z0:List Bool) (a4:Int) (a2:List Int) (z1 z2 z3:Int) (φ:Bool->Prop):Prop:=Pt env 94 W B [1,1,1,1,0,1,0,0,1,1,0,0,1,1,1,1,1,0] [(0,.agg [.lit (.int .i64 x0.Rows),.sl (x0.Classes.map (eSl (eI .i64)))]),(1,.box [.lit (.int .i64 x0.Rows),.sl (x0.Classes.map (eSl (eI .i64)))]),(3,.own (z0.map eB)),(4,.lit (.int .i64 a4)),(6,.sl (a2.map (eI .i64))),(7,.lit (.int .i64 z1)),(22,.sl (x0.Classes.map (eSl (eI .i64)))),(23,.lit (.int .i64 ((x0.Classes.length:Int)))),(24,.lit (.int .i64 z2)),(41,.sl (a2.map (eI .i64))),(42,.lit (.int .i64 ((a2.length:Int)))),(43,.lit (.int .i64 z3))] (Lv env 94 Tryz.f94 1 res φ)
theorem L1_step (x0:api_Partition) (z0:List Bool) (z1 z2:Int) (φ:Bool->Prop) (h :
 (if z2<(x0.Classes.length:Int) then
 ∃ a2,lget x0.Classes z2=some a2 /\
 (if (a2.length:Int)<2 then
 φ false
 else
 ∃ a4,lget a2 0=some a4 /\
 (if a4<=z1 then
 φ false
 else
 q53_.L2 x0 z0 a4 a2 ((-1)) z2 0 φ))
 else
 φ true)):L1 x0 z0 z1 z2 φ:=
 mIn <|
 mAsk 2 h dT dF (fun h=>
 mIx 4 (eSl (eI .i64)) h fun a2 h3 h=>
 mLen 5 (eI .i64) a2 <|
 mAsk 0 h dT dF (fun h=>
 mRet 12 h) fun h=>
 mIx 2 (eI .i64) h fun a4 h5 h=>
 mAsk 2 h dT dF (fun h=>
 mRet 6 h) fun h=>
 mIxf 6 (eI .i64) h5 <|
 mLen 8 (eI .i64) a2 <|
 mFin 2 h) fun h=>
 mRet 6 h
theorem L2_step (x0:api_Partition) (z0:List Bool) (a4:Int) (a2:List Int) (z1 z2 z3:Int) (φ:Bool->Prop) (h :
 (if z3<(a2.length:Int) then
 ∃ a6,lget a2 z3=some a6 /\
 (if a6<=z1 then
 φ false
 else
 (if x0.Rows<=a6 then
 φ false
 else
 ∃ a8,lget z0 a6=some a8 /\
 (if a8=true then
 φ false
 else
 q53_.L2 x0 ((lset z0 a6 true)) a4 a2 a6 z2 ((IntKind.wrap .i64 (z3+1))) φ)))
 else
 q53_.L1 x0 z0 a4 ((IntKind.wrap .i64 (z2+1))) φ)):L2 x0 z0 a4 a2 z1 z2 z3 φ:=
 mIn <|
 mAsk 2 h dT dF (fun h=>
 mIx 4 (eI .i64) h fun a6 h7 h=>
 mAsk 6 h dT dF (fun h=>
 mRet 17 h) fun h=>
 mAsk 4 h dT dF (fun h=>
 mRet 12 h) fun h=>
 mIy 4 eB h fun a8 h9 h=>
 mLdB 0 h9 h (fun h=>
 mRet 6 h) fun h=>
 mIyf 7 eB h9 <|
 mSto 0 eB true h9 <|
 mFin 9 h) fun h=>
 mFin 7 h
theorem enter (x0:api_Partition) (φ:Bool->Prop) (h :
 (if x0.Rows<0 then
 φ false
 else
 (if 1000<x0.Rows then
 φ false
 else
 (0<=x0.Rows/\x0.Rows*1<=281474976710656) /\
 q53_.L1 x0 ((List.replicate x0.Rows.toNat false)) ((-1)) 0 φ))):∃ r,φ r/\C x0 r:=
 mEnt (fd:=Tryz.f94) (body:=B) (V:=W) (res:=res) <|
 mAsk 7 h dT dF (fun h=>
 mRet 10 h) fun h=>
 mAsk 3 h dT dF (fun h=>
 mRet 6 h) fun h=>
 h.elim fun h1 h=>
 mVl 7 (Aor (t:=110) (x:=(.tmp 19)) (y:=(.tmp 19)) (q:=.i64) (i:=x0.Rows) (et:=4) (z:=.lit (.bool false)) (e:=eB) (a:=false) (k:=1) (by kernel_rfl) (by kernel_rfl) (by kernel_rfl) (by kernel_rfl) (by kernel_rfl) (by kernel_rfl) (by kernel_rfl) (by kernel_rfl) (by kernel_rfl) (by kernel_rfl) h1.1 h1.2) <|
 mLen 8 (eSl (eI .i64)) x0.Classes <|
 mFin 2 h
end q53_
end Go.Own
namespace Go.Own
def Abj (rows:Int):Int->List Bool->List Int->Option (List Bool)
 | _,seen,[]=>some seen
 | before,seen,i::r=>if i<=before∨rows<=i∨lget seen i=some true then none else Abj rows i (lset seen i true) r
def Abk (rows:Int):Int->List Bool->List (List Int)->Bool
 | _,_,[]=>true
 | first,seen,c::cs=>match c with
  | []=>false
  | [_]=>false
  | a::b::r=>if a<=first then false else match Abj rows (-1) seen (a::b::r) with
   | none=>false
   | some seen'=>Abk rows a seen' cs
def Aby (p:api_Partition):Bool:=if p.Rows<0 then false else if 1000<p.Rows then false else Abk p.Rows (-1) (List.replicate p.Rows.toNat false) p.Classes
def Ah4 (p:api_Partition):Prop:=p.Classes.length<Big/\∀ c∈p.Classes,c.length<Big
theorem Ajv {rows:Int}:∀ {r:List Int} {b:Int} {s s':List Bool},Abj rows b s r=some s'->s'.length=s.length
 | [],_,_,_,h=>by simp [Abj] at h;rw [h]
 | i::r,b,s,s',h=>by
  simp only [Abj] at h
  split at h
  ·cases h
  ·have:=Ajv h;rw [this,Abh]
namespace q53_
theorem inner {x0:api_Partition} {a4 y24:Int} {a2:List Int} {φ:Bool->Prop} (hb:a2.length<Big):∀ (r:List Int) (k:Nat) (seen:List Bool) (before:Int),a2.drop k=r->(seen.length:Int)=x0.Rows->-1<=before ->
  (match Abj x0.Rows before seen r with
   | none=>φ false
   | some s=>L1 x0 s a4 (IntKind.wrap .i64 (y24+1)) φ)->L2 x0 seen a4 a2 before y24 k φ
 | [],k,seen,before,hd,hs,hbf,h=>by
  apply L2_step;have:=Ab3 hd;rw [if_neg (by omega)];exact h
 | i::r,k,seen,before,hd,hs,hbf,h=>by
  apply L2_step;have hk:=Ab4 hd;rw [if_pos (by omega)];refine ⟨i,Acs hd,?_⟩;simp only [Abj] at h
  split
  ·rename_i h1;rw [if_pos (.inl h1)] at h;exact h
  ·rename_i h1
   split
   ·rename_i h2;rw [if_pos (.inr (.inl h2))] at h;exact h
   ·rename_i h2;obtain ⟨b,hg⟩:=Afv (l:=seen) (i:=i) (by omega) (by omega);refine ⟨b,hg,?_⟩
    split
    ·rename_i h3;subst h3;rw [if_pos (.inr (.inr hg))] at h;exact h
    ·rename_i h3;have:¬ (i<=before∨x0.Rows<=i∨lget seen i=some true):=by
      rintro (h | h | h)
      ·exact h1 h
      ·exact h2 h
      ·rw [hg] at h;exact h3 (Option.some.inj h)
     rw [if_neg this] at h;rw [Aa4 (by unfold Big at hb;omega)];exact inner hb r (k+1) _ i (Aah hd) (by rw [Abh];exact hs) (by omega) h
theorem outer {x0:api_Partition} {φ:Bool->Prop} (hb:Ah4 x0):∀ (cs:List (List Int)) (k:Nat) (seen:List Bool) (first:Int),x0.Classes.drop k=cs->(seen.length:Int)=x0.Rows ->
  φ (Abk x0.Rows first seen cs)->L1 x0 seen first k φ
 | [],k,seen,first,hd,hs,h=>by
  apply L1_step;have:=Ab3 hd;rw [if_neg (by omega)];exact h
 | c::cs,k,seen,first,hd,hs,h=>by
  apply L1_step;have hk:=Ab4 hd;have hc:c∈x0.Classes:=List.mem_of_getElem? (Aap hd);rw [if_pos (by omega)];refine ⟨c,Acs hd,?_⟩
  match c,hc,h,hd with
  | [],_,h,hd=>simp only [List.length_nil];exact h
  | [_],_,h,hd=>simp only [List.length_singleton];exact h
  | a::b::r,hc,h,hd=>
   rw [if_neg (by simp;omega)];refine ⟨a,by simp [lget],?_⟩;simp only [Abk] at h
   split
   ·rename_i h1;rw [if_pos h1] at h;exact h
   ·rename_i h1;rw [if_neg h1] at h;refine inner (hb.2 _ hc) (a::b::r) 0 seen (-1) rfl hs (by omega) ?_;cases ho:Abj x0.Rows (-1) seen (a::b::r) with
    | none=>rw [ho] at h;exact h
    | some s=>
     rw [ho] at h;simp only at h ⊢;rw [Aa4 (by have:=hb.1;unfold Big at this;omega)];exact outer hb cs (k+1) s a (Aah hd) (by rw [Ajv ho];exact hs) h
theorem spec {x0:api_Partition} (hb:Ah4 x0):C x0 (Aby x0):=by
 obtain ⟨r,h1,h2⟩:=enter x0 (fun r=>r=Aby x0) (by
  unfold Aby
  split
  ·rfl
  ·split
   ·rfl
   ·refine ⟨by omega,?_⟩
    exact outer hb x0.Classes 0 _ (-1) rfl (by simp;omega) rfl)
 rw [← h1];exact h2
end q53_
def free:List Bool->Nat
 | []=>0
 | b::l=>(if b then 0 else 1)+free l
theorem Aqv (n:Nat):free (List.replicate n false)=n:=by
 induction n with
 | zero=>rfl
 | succ n ih=>simp only [List.replicate_succ,free,ih];simp;omega
theorem Atz:∀ {l:List Bool} {n:Nat},l[n]? = some false->free (l.set n true)+1=free l
 | [],n,h=>by simp at h
 | b::l,0,h=>by simp at h;subst h;simp [free];omega
 | b::l,n+1,h=>by
  simp only [List.getElem?_cons_succ] at h;have:=Atz h;simp only [List.set_cons_succ,free];omega
theorem Azc {l:List Bool} {i:Int} (h:lget l i=some false):free (lset l i true)+1=free l:=Atz (Abf h).2
theorem Anx {rows:Int}:∀ {r:List Int} {i b:Int} {s s':List Bool},-1<=b->(s.length:Int)=rows->Abj rows b s (i::r)=some s'->b<i/\i<rows/\lget s i=some false/\Abj rows i (lset s i true) r=some s':=by
 intro r i b s s' hb hs h;simp only [Abj] at h
 split at h
 ·cases h
 ·rename_i h1;simp only [not_or] at h1;obtain ⟨x,hx⟩:=Afv (l:=s) (i:=i) (by omega) (by omega);refine ⟨by omega,by omega,?_,h⟩;rw [hx] at h1 ⊢;cases x with
  | true=>exact absurd rfl h1.2.2
  | false=>rfl
theorem Ame {rows:Int}:∀ {r:List Int} {b:Int} {s s':List Bool},-1<=b->(s.length:Int)=rows->Abj rows b s r=some s'->free s'+r.length=free s
 | [],b,s,s',hb,hs,h=>by simp [Abj] at h;simp [h]
 | i::r,b,s,s',hb,hs,h=>by
  obtain ⟨h1,h2,h3,h4⟩:=Anx hb hs h;have:=Ame (by omega) (by rw [Abh];exact hs) h4;have h5:=Azc h3;simp only [List.length_cons];omega
def Ag3:List (List Int)->Int
 | []=>0
 | c::cs=>((c.length:Int)-1)+Ag3 cs
theorem Alk {rows first:Int} {s:List Bool} {c:List Int} {cs:List (List Int)} (h:Abk rows first s (c::cs)=true):∃ a b r s',c=a::b::r/\first<a/\Abj rows (-1) s c=some s'/\Abk rows a s' cs=true:=by
 match c,h with
 | [],h=>simp [Abk] at h
 | [_],h=>simp [Abk] at h
 | a::b::r,h=>
  simp only [Abk] at h
  split at h
  ·cases h
  ·rename_i h1;cases ho:Abj rows (-1) s (a::b::r) with
   | none=>rw [ho] at h;cases h
   | some s'=>rw [ho] at h;exact ⟨a,b,r,s',rfl,by omega,rfl,h⟩
theorem Ap8 {rows:Int}:∀ {cs:List (List Int)} {first:Int} {s:List Bool},(s.length:Int)=rows->Abk rows first s cs=true->0<=Ag3 cs/\Ag3 cs<=free s
 | [],_,_,_,_=>by simp [Ag3]
 | c::cs,first,s,hs,h=>by
  obtain ⟨a,b,r,s',hc,h1,h2,h3⟩:=Alk h;have h4:=Ame (by omega) hs h2;have h5:=Ap8 (by rw [Ajv h2];exact hs) h3;subst hc;simp only [Ag3,List.length_cons] at h4 ⊢;omega
theorem Av1 {p:api_Partition} (h:Aby p=true):0<=p.Rows/\p.Rows<=1000/\Abk p.Rows (-1) (List.replicate p.Rows.toNat false) p.Classes=true:=by
 unfold Aby at h
 split at h
 ·cases h
 ·split at h
  ·cases h
  ·exact ⟨by omega,by omega,h⟩
def Aeo (a:Int):List Int->List Int->List Int
 | l,[]=>l
 | l,i::r=>Aeo a (lset l i a) r
theorem Abw {a:Int}:∀ {l r:List Int},(Aeo a l r).length=l.length
 | _,[]=>rfl
 | l,i::r=>by simp only [Aeo];rw [Abw,Abh]
def Ajf (s:List Bool) (r:List Int):List Bool:=r.foldl (fun s i=>lset s i true) s
theorem Ama:∀ {r:List Int} {s:List Bool},(Ajf s r).length=s.length
 | [],_=>rfl
 | i::r,s=>by
  show (Ajf (lset s i true) r).length=_;rw [Ama,Abh]
theorem Am9:∀ {r:List Int} {s:List Bool} {j:Int},(∀ i∈r,0<=i/\i<s.length)->0<=j->j<s.length->lget (Ajf s r) j=if j∈r then some true else lget s j
 | [],_,_,_,_,_=>by simp [Ajf]
 | i::r,s,j,h,hj,hjs=>by
  show lget (Ajf (lset s i true) r) j=_;have hi:=h i (by simp);rw [Am9 (fun k hk=>by rw [Abh];exact h k (by simp [hk])) hj (by rw [Abh];exact hjs)];by_cases h1:j∈r
  ·simp [h1]
  ·rw [if_neg h1,Ajd hi.1 hj];by_cases h2:i=j
   ·subst h2;simp [hi.2]
   ·rw [if_neg h2,if_neg];simp only [List.mem_cons,not_or];exact ⟨fun h=>h2 h.symm,h1⟩
theorem Aha {rows:Int}:∀ {r:List Int} {b:Int} {s s':List Bool},-1<=b->(s.length:Int)=rows->(Abj rows b s r=some s'↔(b::r).Pairwise (·<·)/\(∀ i∈r,i<rows/\lget s i=some false)/\s'=Ajf s r)
 | [],b,s,s',hb,hs=>by simp [Abj,Ajf,eq_comm]
 | i::r,b,s,s',hb,hs=>by
  constructor
  ·intro h;obtain ⟨h1,h2,h3,h4⟩:=Anx hb hs h;obtain ⟨k1,k2,k3⟩:=(Aha (by omega) (by rw [Abh];exact hs)).1 h4;have k4:=List.pairwise_cons.1 k1;refine ⟨List.pairwise_cons.2 ⟨fun j hj=>?_,k1⟩,fun j hj=>?_,k3⟩
   ·rcases List.mem_cons.1 hj with rfl | hj
    ·exact h1
    ·have:=k4.1 j hj;omega
   ·rcases List.mem_cons.1 hj with rfl | hj
    ·exact ⟨h2,h3⟩
    ·have h5:=k4.1 j hj;have h6:=k2 j hj;rw [Ajd (by omega) (by omega),if_neg (by omega)] at h6;exact h6
  ·rintro ⟨h1,h2,h3⟩;have k1:=List.pairwise_cons.1 h1;have k2:=List.pairwise_cons.1 k1.2;have hbi:=k1.1 i (by simp);have hi:=h2 i (by simp);simp only [Abj];rw [if_neg (by
    rintro (h | h | h)
    ·omega
    ·omega
    ·rw [hi.2] at h;cases h)]
   refine (Aha (by omega) (by rw [Abh];exact hs)).2 ⟨k1.2,fun j hj=>?_,h3⟩;have h5:=k2.1 j hj;rw [Ajd (by omega) (by omega),if_neg (by omega)];exact h2 j (by simp [hj])
structure CP (rows:Int) (cs:List (List Int)):Prop where
 two:∀ c∈cs,2<=c.length
 inc:∀ c∈cs,c.Pairwise (·<·)
 inn:∀ c∈cs,∀ i∈c,0<=i/\i<rows
 heads:cs.Pairwise fun c d=>c.headD 0<d.headD 0
 disj:cs.Pairwise fun c d=>∀ i∈c,i ∉ d
theorem Afh {rows:Int}:∀ {cs:List (List Int)} {first:Int} {s:List Bool},-1<=first->(s.length:Int)=rows->(Abk rows first s cs=true↔CP rows cs/\(∀ c∈cs,first<c.headD 0)/\∀ c∈cs,∀ i∈c,lget s i=some false)
 | [],first,s,hf,hs=>by
  simp only [Abk,true_iff];exact ⟨⟨by simp,by simp,by simp,by simp,by simp⟩,by simp,by simp⟩
 | c::cs,first,s,hf,hs=>by
  constructor
  ·intro h;obtain ⟨a,b,t,s',hc,h1,h2,h3⟩:=Alk h;obtain ⟨m1,m2,m3⟩:=(Aha (by omega) hs).1 h2;have hin:∀ i∈c,0<=i/\i<rows:=fun i hi=>by
    have:=(List.pairwise_cons.1 m1).1 i hi;exact ⟨by omega,(m2 i hi).1⟩
   have hs':(s'.length:Int)=rows:=by rw [m3,Ama];exact hs
   have ha:0<=a:=(hin a (by rw [hc];simp)).1;obtain ⟨n1,n2,n3⟩:=(Afh (by omega) hs').1 h3;have key:∀ d∈cs,∀ i∈d,i ∉ c/\lget s i=some false:=fun d hd i hi=>by
    have h5:=n3 d hd i hi;have h6:=n1.inn d hd i hi;rw [m3,Am9 (fun k hk=>by have:=hin k hk;omega) h6.1 (by omega)] at h5;by_cases hic:i∈c
    ·rw [if_pos hic] at h5;cases h5
    ·rw [if_neg hic] at h5;exact ⟨hic,h5⟩
   refine ⟨⟨?_,?_,?_,?_,?_⟩,?_,?_⟩
   ·intro d hd;rcases List.mem_cons.1 hd with rfl | hd
    ·rw [hc];simp
    ·exact n1.two d hd
   ·intro d hd;rcases List.mem_cons.1 hd with rfl | hd
    ·exact (List.pairwise_cons.1 m1).2
    ·exact n1.inc d hd
   ·intro d hd;rcases List.mem_cons.1 hd with rfl | hd
    ·exact hin
    ·exact n1.inn d hd
   ·refine List.pairwise_cons.2 ⟨fun d hd=>?_,n1.heads⟩;have:=n2 d hd;rw [hc];exact this
   ·exact List.pairwise_cons.2 ⟨fun d hd i hi hid=>(key d hd i hid).1 hi,n1.disj⟩
   ·intro d hd;rcases List.mem_cons.1 hd with rfl | hd
    ·rw [hc];exact h1
    ·have:=n2 d hd;omega
   ·intro d hd i hi;rcases List.mem_cons.1 hd with rfl | hd
    ·exact (m2 i hi).2
    ·exact (key d hd i hi).2
  ·rintro ⟨⟨p1,p2,p3,p4,p5⟩,q1,q2⟩
   match c,p1 c (by simp),p1,p2,p3,p4,p5,q1,q2 with
   | a::b::t,_,p1,p2,p3,p4,p5,q1,q2=>
    have ho:Abj rows (-1) s (a::b::t)=some (Ajf s (a::b::t)):=(Aha (by omega) hs).2 ⟨List.pairwise_cons.2 ⟨fun i hi=>by have:=(p3 _ (by simp) i hi).1;omega,p2 _ (by simp)⟩,fun i hi=>⟨(p3 _ (by simp) i hi).2,q2 _ (by simp) i hi⟩,rfl⟩;have ha:=p3 (a::b::t) (by simp) a (by simp);simp only [Abk];rw [if_neg (by have:=q1 (a::b::t) (by simp);simp at this;omega),ho];refine (Afh (by omega) (by rw [Ama];exact hs)).2 ⟨⟨fun d hd=>p1 d (by simp [hd]),fun d hd=>p2 d (by simp [hd]),fun d hd=>p3 d (by simp [hd]),(List.pairwise_cons.1 p4).2,(List.pairwise_cons.1 p5).2⟩,fun d hd=>?_,fun d hd i hi=>?_⟩
    ·exact (List.pairwise_cons.1 p4).1 d hd
    ·have h6:=p3 d (by simp [hd]) i hi;rw [Am9 (fun k hk=>by have:=p3 (a::b::t) (by simp) k hk;omega) h6.1 (by omega),if_neg]
     ·exact q2 d (by simp [hd]) i hi
     ·exact fun hic=>(List.pairwise_cons.1 p5).1 d hd i hic hi
theorem Aev {p:api_Partition}:Aby p=true↔0<=p.Rows/\p.Rows<=1000/\CP p.Rows p.Classes:=by
 constructor
 ·intro h;obtain ⟨h1,h2,h3⟩:=Av1 h;exact ⟨h1,h2,((Afh (by omega) (by simp;omega)).1 h3).1⟩
 ·rintro ⟨h1,h2,h3⟩;unfold Aby;rw [if_neg (by omega),if_neg (by omega)];refine (Afh (by omega) (by simp;omega)).2 ⟨h3,fun c hc=>?_,fun c hc i hi=>?_⟩
  ·have h4:=h3.two c hc
   match c,h4,hc with
   | a::t,_,hc=>have:=h3.inn _ hc a (by simp);simp;omega
  ·have:=h3.inn c hc i hi;simp only [lget,if_pos this.1,List.getElem?_replicate];rw [if_pos (by omega)]
def Same (p:api_Partition) (i j:Int):Prop:=i=j∨∃ c∈p.Classes,i∈c/\j∈c
theorem Aik {a:Int}:∀ {r:List Int} {l:List Int} {j:Int},(∀ i∈r,0<=i/\i<l.length)->0<=j->j<l.length->lget (Aeo a l r) j=if j∈r then some a else lget l j
 | [],_,_,_,_,_=>by simp [Aeo]
 | i::r,l,j,h,hj,hjl=>by
  have hi:=h i (by simp);simp only [Aeo];rw [Aik (fun k hk=>by rw [Abh];exact h k (by simp [hk])) hj (by rw [Abh];exact hjl)];by_cases h1:j∈r
  ·simp [h1]
  ·rw [if_neg h1,Ajd hi.1 hj];by_cases h2:i=j
   ·subst h2;simp [hi.2]
   ·rw [if_neg h2,if_neg];simp only [List.mem_cons,not_or];exact ⟨fun h=>h2 h.symm,h1⟩
def Agb:List (Int×List Int)->List Int->List Int
 | [],l=>l
 | (a,c)::r,l=>Agb r (Aeo a l c)
theorem Apt:∀ {r:List (Int×List Int)} {l:List Int},(Agb r l).length=l.length
 | [],_=>rfl
 | (a,c)::r,l=>by simp only [Agb];rw [Apt,Abw]
theorem Al4:∀ {r:List (Int×List Int)} {l:List Int} {j:Int},(∀ x∈r,∀ i∈x.2,0<=i/\i<l.length)->0<=j->j<l.length->(∀ x∈r,j ∉ x.2)->lget (Agb r l) j=lget l j
 | [],_,_,_,_,_,_=>rfl
 | (a,c)::r,l,j,h,hj,hjl,hn=>by
  simp only [Agb];rw [Al4 (fun x hx=>by rw [Abw];exact h x (by simp [hx])) hj (by rw [Abw];exact hjl) (fun x hx=>hn x (by simp [hx])),Aik (h (a,c) (by simp)) hj hjl,if_neg (hn (a,c) (by simp))]
theorem As5:∀ {r:List (Int×List Int)} {l:List Int} {j:Int} {x:Int×List Int},(∀ x∈r,∀ i∈x.2,0<=i/\i<l.length)->0<=j->j<l.length->r.Pairwise (fun x y=>∀ i∈x.2,i ∉ y.2)->x∈r->j∈x.2->lget (Agb r l) j=some x.1
 | [],_,_,_,_,_,_,_,hx,_=>by cases hx
 | (a,c)::r,l,j,x,h,hj,hjl,hp,hx,hjx=>by
  simp only [Agb];have hp':=List.pairwise_cons.1 hp;rcases List.mem_cons.1 hx with rfl | hx
  ·rw [Al4 (fun x hx=>by rw [Abw];exact h x (by simp [hx])) hj (by rw [Abw];exact hjl) (fun y hy=>hp'.1 y hy j hjx),Aik (h (a,c) (by simp)) hj hjl,if_pos hjx]
  ·exact As5 (fun x hx=>by rw [Abw];exact h x (by simp [hx])) hj (by rw [Abw];exact hjl) hp'.2 hx hjx
theorem Azf {c:List Int} (h:2<=c.length):c.headD 0∈c:=by
 match c,h with
 | a::t,_=>simp
end Go.Own
namespace Go.Own
open Go.Proofs D
set_option maxRecDepth 100000
set_option maxHeartbeats 4000000
namespace q43_
noncomputable def B:Code:=(Tryz.f67.body).getD .skip
def W:List Nat:=[0,1,2,3,4,5,6,8,13,14,15,24,25,26,27,31,32,33,34]
def res (r:List Int):D×List D:=(.own (r.map (eI .i64)),[])
def C (x0:api_Partition) (r:List Int):Prop:=Ret env 67 [.agg [.lit (.int .i64 x0.Rows),.sl (x0.Classes.map (eSl (eI .i64)))]] (res r).1 (res r).2
def L1 (x0:api_Partition) (z0:List Int) (z1:Int) (φ:List Int->Prop):Prop:=Pt env 67 W B [1,1,0,1,0] [(0,.agg [.lit (.int .i64 x0.Rows),.sl (x0.Classes.map (eSl (eI .i64)))]),(1,.box [.lit (.int .i64 x0.Rows),.sl (x0.Classes.map (eSl (eI .i64)))]),(3,.own (z0.map (eI .i64))),(13,.lit (.int .i64 (((List.replicate x0.Rows.toNat (0:Int)).length:Int)))),(14,.lit (.int .i64 z1))] (Lv env 67 Tryz.f67 1 res φ)
def L2 (x0:api_Partition) (z0:List Int) (z1:Int) (φ:List Int->Prop):Prop:=Pt env 67 W B [1,1,1,0,1,0] [(0,.agg [.lit (.int .i64 x0.Rows),.sl (x0.Classes.map (eSl (eI .i64)))]),(1,.box [.lit (.int .i64 x0.Rows),.sl (x0.Classes.map (eSl (eI .i64)))]),(3,.own (z0.map (eI .i64))),(24,.sl (x0.Classes.map (eSl (eI .i64)))),(25,.lit (.int .i64 ((x0.Classes.length:Int)))),(26,.lit (.int .i64 z1))] (Lv env 67 Tryz.f67 1 res φ)
def L3 (x0:api_Partition) (z0:List Int) (z1:Int) (a4:List Int) (z2 z3:Int) (φ:List Int->Prop):Prop:=Pt env 67 W B [1,1,1,0,1,0,0,1,1,0,0,1,1,0] [(0,.agg [.lit (.int .i64 x0.Rows),.sl (x0.Classes.map (eSl (eI .i64)))]),(1,.box [.lit (.int .i64 x0.Rows),.sl (x0.Classes.map (eSl (eI .i64)))]),(3,.own (z0.map (eI .i64))),(5,.lit (.int .i64 z1)),(6,.sl (a4.map (eI .i64))),(24,.sl (x0.Classes.map (eSl (eI .i64)))),(25,.lit (.int .i64 ((x0.Classes.length:Int)))),(26,.lit (.int .i64 z2)),(31,.sl (a4.map (eI .i64))),(32,.lit (.int .i64 ((a4.length:Int)))),(33,.lit (.int .i64 z3))] (Lv env 67 Tryz.f67 1 res φ)
theorem L1_step (x0:api_Partition) (z0:List Int) (z1:Int) (φ:List Int->Prop) (h :
 (if z1<((List.replicate x0.Rows.toNat (0:Int)).length:Int) then
 ∃ a2,lget z0 z1=some a2 /\
 q43_.L1 x0 ((lset z0 z1 (IntKind.wrap .i64 ((-1)-z1)))) ((IntKind.wrap .i64 (z1+1))) φ
 else
 q43_.L2 x0 z0 0 φ)):L1 x0 z0 z1 φ:=
 mIn <|
 mAsk 2 h dT dF (fun h=>
 mIy 12 (eI .i64) h fun a2 h3 h=>
 mSto 0 (eI .i64) ((IntKind.wrap .i64 ((-1)-z1))) h3 <|
 mFin 5 h) fun h=>
 mLen 6 (eSl (eI .i64)) x0.Classes <|
 mFin 2 h
theorem L2_step (x0:api_Partition) (z0:List Int) (z1:Int) (φ:List Int->Prop) (h :
 (if z1<(x0.Classes.length:Int) then
 ∃ a4,lget x0.Classes z1=some a4 /\
 q43_.L3 x0 z0 z1 a4 z1 0 φ
 else
 φ z0)):L2 x0 z0 z1 φ:=
 mIn <|
 mAsk 2 h dT dF (fun h=>
 mIx 5 (eSl (eI .i64)) h fun a4 h5 h=>
 mLen 6 (eI .i64) a4 <|
 mFin 2 h) fun h=>
 mRet 7 h
theorem L3_step (x0:api_Partition) (z0:List Int) (z1:Int) (a4:List Int) (z2 z3:Int) (φ:List Int->Prop) (h :
 (if z3<(a4.length:Int) then
 ∃ a6,lget a4 z3=some a6 /\
 ∃ a8,lget z0 a6=some a8 /\
 q43_.L3 x0 ((lset z0 a6 z1)) z1 a4 z2 ((IntKind.wrap .i64 (z3+1))) φ
 else
 q43_.L2 x0 z0 ((IntKind.wrap .i64 (z2+1))) φ)):L3 x0 z0 z1 a4 z2 z3 φ:=
 mIn <|
 mAsk 2 h dT dF (fun h=>
 mIx 4 (eI .i64) h fun a6 h7 h=>
 mIy 7 (eI .i64) h fun a8 h9 h=>
 mSto 0 (eI .i64) z1 h9 <|
 mFin 5 h) fun h=>
 mFin 7 h
theorem enter (x0:api_Partition) (φ:List Int->Prop) (h :
 (0<=x0.Rows/\x0.Rows*8<=281474976710656) /\
 q43_.L1 x0 ((List.replicate x0.Rows.toNat (0:Int))) 0 φ):∃ r,φ r/\C x0 r:=
 mEnt (fd:=Tryz.f67) (body:=B) (V:=W) (res:=res) <|
 h.elim fun h1 h=>
 mVl 7 (Aor (t:=35) (x:=(.tmp 10)) (y:=(.tmp 10)) (q:=.i64) (i:=x0.Rows) (et:=3) (z:=.lit (.int .i64 0)) (e:=(eI .i64)) (a:=(0:Int)) (k:=8) (by kernel_rfl) (by kernel_rfl) (by kernel_rfl) (by kernel_rfl) (by kernel_rfl) (by kernel_rfl) (by kernel_rfl) (by kernel_rfl) (by kernel_rfl) (by kernel_rfl) h1.1 h1.2) <|
 mLen 4 (eI .i64) ((List.replicate x0.Rows.toNat (0:Int))) <|
 mFin 2 h
end q43_
namespace q57_
noncomputable def B:Code:=(Tryz.f66.body).getD .skip
def W:List Nat:=[0,1,2,3,4,12,17]
def res (r:Int):D×List D:=(.lit (.int .i64 r),[])
def C (x0 x1:api_Partition) (r:Int):Prop:=Ret env 66 [.agg [.lit (.int .i64 x0.Rows),.sl (x0.Classes.map (eSl (eI .i64)))],.agg [.lit (.int .i64 x1.Rows),.sl (x1.Classes.map (eSl (eI .i64)))]] (res r).1 (res r).2
theorem enter (x0 x1:api_Partition) (φ:Int->Prop) (h :
 ∃ r1:Bool,q53_.C x0 r1 /\
 (if r1=true then
 ∃ r2:Bool,q53_.C x1 r2 /\
 (if r2=true then
 (if x0.Rows=x1.Rows then
 φ 0
 else
 φ 6)
 else
 φ 1)
 else
 φ 1)):∃ r,φ r/\C x0 x1 r:=
 mEnt (fd:=Tryz.f66) (body:=B) (V:=W) (res:=res) <|
 Abr 7 h (fun _ h=>h) (fun _ h=>
 Abr 3 h (fun _ h=>h) (fun _ h=>
 Acq 10 h Acf Ace (fun h=>
 mRet 5 h) fun h=>
 mRet 6 h) fun _ h=>
 mRet 7 h) fun _ h=>
 mRet 11 h
end q57_
end Go.Own
namespace Go.Own
def negs (n:Nat):List Int:=(List.range n).map fun (k:Nat)=>-1-(k:Int)
theorem Bbm {n k:Nat} (h:k<n):(negs n)[k]? = some (-1-(k:Int)):=by simp [negs,h]
theorem Afl {n:Nat}:(negs n).length=n:=by simp [negs]
def idx:Nat->List (List Int)->List (Int×List Int)
 | _,[]=>[]
 | k,c::cs=>((k:Int),c)::idx (k+1) cs
theorem Afs:∀ {cs:List (List Int)} {k:Nat} {x:Int×List Int},x∈idx k cs->∃ n:Nat,k<=n/\x.1=(n:Int)/\cs[n-k]? = some x.2
 | [],_,_,h=>by cases h
 | c::cs,k,x,h=>by
  rcases List.mem_cons.1 h with rfl | h
  ·exact ⟨k,by omega,rfl,by simp⟩
  ·obtain ⟨n,h1,h2,h3⟩:=Afs h;refine ⟨n,by omega,h2,?_⟩;have:n-k=(n-(k+1))+1:=by omega
   rw [this,List.getElem?_cons_succ];exact h3
theorem Au4:∀ {cs:List (List Int)} {k:Nat} {c:List Int},c∈cs->∃ n:Nat,((n:Int),c)∈idx k cs
 | [],_,_,h=>by cases h
 | d::cs,k,c,h=>by
  rcases List.mem_cons.1 h with rfl | h
  ·exact ⟨k,by simp [idx]⟩
  ·obtain ⟨n,hn⟩:=Au4 (k:=k+1) h;exact ⟨n,by simp [idx,hn]⟩
theorem Awg:∀ {cs:List (List Int)} {k:Nat},(idx k cs).map Prod.snd=cs
 | [],_=>rfl
 | c::cs,k=>by simp [idx,Awg]
def labN (p:api_Partition):List Int:=Agb (idx 0 p.Classes) (negs p.Rows.toNat)
theorem Aog {p:api_Partition}:(labN p).length=p.Rows.toNat:=by unfold labN;rw [Apt,Afl]
namespace q43_
theorem fill {x0:api_Partition} {φ:List Int->Prop} (h0:0<=x0.Rows) (h1:x0.Rows<=1000) (hL:L2 x0 (negs x0.Rows.toNat) 0 φ):∀ (m k:Nat),k+m=x0.Rows.toNat->L1 x0 (negs k++List.replicate m 0) k φ
 | 0,k,hk=>by
  apply L1_step;rw [if_neg (by simp;omega)];have:k=x0.Rows.toNat:=by omega
  simpa [this] using hL
 | m+1,k,hk=>by
  apply L1_step;rw [if_pos (by simp;omega)];have hl:(negs k).length=k:=Afl;refine ⟨0,?_,?_⟩
  ·rw [Abx,List.getElem?_append_right (by omega)];simp [hl]
  ·rw [Aa4 (by omega),Abz (by omega) (by omega)];have:lset (negs k++List.replicate (m+1) 0) (k:Int) (-1-(k:Int))=negs (k+1)++List.replicate m 0:=by
    unfold lset;rw [Int.toNat_natCast,List.set_append_right _ _ (by omega),hl,Nat.sub_self,List.replicate_succ,List.set_cons_zero];simp [negs,List.range_succ]
   rw [this];exact fill h0 h1 hL m (k+1) (by omega)
theorem inner {x0:api_Partition} {φ:List Int->Prop} {c:List Int} {a:Int} {j:Nat} (hb:c.length<Big) (hj:j+1<Big):∀ (r:List Int) (k:Nat) (l:List Int),c.drop k=r->(∀ i∈r,0<=i/\i<l.length) ->
  L2 x0 (Aeo a l r) ((j+1:Nat):Int) φ->L3 x0 l a c j k φ
 | [],k,l,hd,hin,h=>by
  apply L3_step;have:=Ab3 hd;rw [if_neg (by omega),Aa4 hj];exact h
 | i::r,k,l,hd,hin,h=>by
  apply L3_step;have hk:=Ab4 hd;have hi:=hin i (by simp);rw [if_pos (by omega)];obtain ⟨x,hx⟩:=Afv (l:=l) (i:=i) hi.1 hi.2;refine ⟨i,Acs hd,x,hx,?_⟩;rw [Aa4 (by unfold Big at hb;omega)];exact inner hb hj r (k+1) _ (Aah hd) (fun q hq=>by rw [Abh];exact hin q (by simp [hq])) h
theorem outer {x0:api_Partition} {φ:List Int->Prop} (hb:Ah4 x0):∀ (cs:List (List Int)) (k:Nat) (l:List Int),x0.Classes.drop k=cs->(∀ c∈cs,∀ i∈c,0<=i/\i<l.length) ->
  φ (Agb (idx k cs) l)->L2 x0 l k φ
 | [],k,l,hd,hin,h=>by
  apply L2_step;have:=Ab3 hd;rw [if_neg (by omega)];exact h
 | c::cs,k,l,hd,hin,h=>by
  apply L2_step;have hk:=Ab4 hd;rw [if_pos (by omega)];have hcg:=Aap hd;refine ⟨c,Acs hd,?_⟩;refine inner (hb.2 _ (List.mem_of_getElem? hcg)) (by have:=hb.1;omega) c 0 l rfl (hin c (by simp)) ?_;exact outer hb cs (k+1) _ (Aah hd) (fun d hd i hi=>by rw [Abw];exact hin d (by simp [hd]) i hi) h
theorem spec {x0:api_Partition} (hb:Ah4 x0) (hv:Aby x0=true):C x0 (labN x0):=by
 obtain ⟨v1,v2,v3⟩:=Aev.1 hv;obtain ⟨r,h1,h2⟩:=enter x0 (fun r=>r=labN x0) (by
  refine ⟨by omega,?_⟩;have:=fill (φ:=fun r=>r=labN x0) v1 v2 (outer hb x0.Classes 0 _ rfl (fun c hc i hi=>by have:=v3.inn c hc i hi;rw [Afl];omega) rfl) x0.Rows.toNat 0 (by omega)
  simpa [negs] using this)
 rw [← h1];exact h2
end q43_
theorem Aoh {p:api_Partition} (hv:Aby p=true) {i:Int} (h0:0<=i) (h1:i<p.Rows) (hn:∀ c∈p.Classes,i ∉ c):lget (labN p) i=some (-1-i):=by
 obtain ⟨v1,v2,v3⟩:=Aev.1 hv;unfold labN;rw [Al4 (fun x hx=>?_) h0 (by rw [Afl];omega) (fun x hx=>?_)]
 ·simp only [lget,if_pos h0];rw [Bbm (by omega)];congr 1;omega
 ·obtain ⟨n,_,_,h3⟩:=Afs hx;intro j hj;have:=v3.inn _ (List.mem_of_getElem? h3) j hj;rw [Afl];omega
 ·obtain ⟨n,_,_,h3⟩:=Afs hx;exact hn _ (List.mem_of_getElem? h3)
theorem Ak8 {p:api_Partition} (hv:Aby p=true) {i:Int} {x:Int×List Int} (hc:x∈idx 0 p.Classes) (hi:i∈x.2):lget (labN p) i=some x.1:=by
 obtain ⟨v1,v2,v3⟩:=Aev.1 hv;obtain ⟨n,_,_,h3⟩:=Afs hc;have hin:=v3.inn _ (List.mem_of_getElem? h3) i hi;unfold labN;refine As5 (fun y hy=>?_) hin.1 (by rw [Afl];omega) ?_ hc hi
 ·obtain ⟨n,_,_,h3⟩:=Afs hy;intro j hj;have:=v3.inn _ (List.mem_of_getElem? h3) j hj;rw [Afl];omega
 ·have:=v3.disj;rw [← Awg (cs:=p.Classes) (k:=0)] at this;exact List.pairwise_map.1 this
theorem Azp {p:api_Partition} (hv:Aby p=true) {i j:Int} (hi:0<=i/\i<p.Rows) (hj:0<=j/\j<p.Rows):lget (labN p) i=lget (labN p) j↔Same p i j:=by
 obtain ⟨v1,v2,v3⟩:=Aev.1 hv;have inn:∀ {i:Int},(∃ c∈p.Classes,i∈c)->∃ x∈idx 0 p.Classes,i∈x.2:=by
  rintro i ⟨c,hc,hi⟩;obtain ⟨n,hn⟩:=Au4 (k:=0) hc;exact ⟨_,hn,hi⟩
 constructor
 ·intro h;by_cases hic:∃ c∈p.Classes,i∈c
  ·obtain ⟨x,hx,hxi⟩:=inn hic;obtain ⟨n,_,e1,g1⟩:=Afs hx;rw [Ak8 hv hx hxi] at h;by_cases hjc:∃ d∈p.Classes,j∈d
   ·obtain ⟨y,hy,hyj⟩:=inn hjc;obtain ⟨m,_,e2,g2⟩:=Afs hy;rw [Ak8 hv hy hyj] at h;have h2:=Option.some.inj h;have:n=m:=by omega
    subst this;rw [g1] at g2;have:=Option.some.inj g2;exact .inr ⟨x.2,List.mem_of_getElem? g1,hxi,by rw [this];exact hyj⟩
   ·rw [Aoh hv hj.1 hj.2 (fun c hc hjc'=>hjc ⟨c,hc,hjc'⟩)] at h;have h2:=Option.some.inj h;omega
  ·rw [Aoh hv hi.1 hi.2 (fun c hc hic'=>hic ⟨c,hc,hic'⟩)] at h;by_cases hjc:∃ d∈p.Classes,j∈d
   ·obtain ⟨y,hy,hyj⟩:=inn hjc;obtain ⟨m,_,e2,g2⟩:=Afs hy;rw [Ak8 hv hy hyj] at h;have h2:=Option.some.inj h;omega
   ·rw [Aoh hv hj.1 hj.2 (fun c hc hjc'=>hjc ⟨c,hc,hjc'⟩)] at h;exact .inl (by have:=Option.some.inj h;omega)
 ·rintro (rfl | ⟨c,hc,h1,h2⟩)
  ·rfl
  ·obtain ⟨n,hn⟩:=Au4 (k:=0) hc;rw [Ak8 hv hn h1,Ak8 hv hn h2]
def Aj6 (a b:api_Partition):Int:=if Aby a then (if Aby b then (if a.Rows=b.Rows then 0 else 6) else 1) else 1
theorem q57_.spec {a b:api_Partition} (ha:Ah4 a) (hb:Ah4 b):q57_.C a b (Aj6 a b):=by
 obtain ⟨r,h1,h2⟩:=q57_.enter a b (fun r=>r=Aj6 a b) (by
  refine ⟨_,q53_.spec ha,?_⟩;unfold Aj6
  split
  ·refine ⟨_,q53_.spec hb,?_⟩
   split
   ·split
    ·rfl
    ·rfl
   ·rfl
  ·rfl)
 rw [← h1];exact h2
theorem Am2 {rows:Int}:∀ {cs:List (List Int)} {c:List Int},CP rows cs->c∈cs->(c.length:Int)-1<=Ag3 cs/\(cs.length:Int)<=Ag3 cs
 | [],_,_,h=>by cases h
 | d::cs,c,hp,h=>by
  have hd:=hp.two d (by simp);have hp':CP rows cs:=⟨fun c hc=>hp.two c (by simp [hc]),fun c hc=>hp.inc c (by simp [hc]),fun c hc=>hp.inn c (by simp [hc]),(List.pairwise_cons.1 hp.heads).2,(List.pairwise_cons.1 hp.disj).2⟩
  have hnn:∀ {cs:List (List Int)},CP rows cs->(cs.length:Int)<=Ag3 cs:=by
   intro cs
   induction cs with
   | nil=>intro _;simp [Ag3]
   | cons e cs ih=>
    intro hq;have he:=hq.two e (by simp);have:=ih ⟨fun c hc=>hq.two c (by simp [hc]),fun c hc=>hq.inc c (by simp [hc]),fun c hc=>hq.inn c (by simp [hc]),(List.pairwise_cons.1 hq.heads).2,(List.pairwise_cons.1 hq.disj).2⟩;simp only [Ag3,List.length_cons];omega
  have h1:=hnn hp';simp only [Ag3,List.length_cons];refine ⟨?_,by omega⟩;rcases List.mem_cons.1 h with rfl | h
  ·omega
  ·have:=(Am2 hp' h).1;omega
theorem Bh6 {x:api_Partition} (hv:Aby x=true):x.Classes.length<=1000/\∀ c∈x.Classes,c.length<=1001:=by
 obtain ⟨v1,v2,v3⟩:=Aev.1 hv;obtain ⟨w1,w2,w3⟩:=Av1 hv;have h1:=(Ap8 (by simp;omega) w3).2;rw [Aqv] at h1;refine ⟨?_,fun c hc=>?_⟩
 ·cases hcs:x.Classes with
  | nil=>simp
  | cons c cs=>
   have:=(Am2 v3 (c:=c) (by rw [hcs];simp)).2;rw [hcs] at this h1;omega
 ·have:=(Am2 v3 hc).1;omega
def lab1 (r:List Int) (i:Int):Int:=(lget r i).getD 0
theorem Awh {r:List Int} {i a:Int} (h:lget r i=some a):lab1 r i=a:=by simp [lab1,h]
theorem Bbf {r:List Int} {i j:Int} (hi:0<=i/\i<r.length) (hj:0<=j/\j<r.length):lab1 r i=lab1 r j↔lget r i=lget r j:=by
 obtain ⟨a,ha⟩:=Afv hi.1 hi.2;obtain ⟨b,hb⟩:=Afv hj.1 hj.2;simp [lab1,ha,hb]
def cls {α:Type} [DecidableEq α] (l:List α) (a:α):List Int:=((List.range l.length).filter fun k=>decide (l[k]? = some a)).map fun (k:Nat)=>(k:Int)
def fsts {α:Type} [DecidableEq α] (l:List α):List α:=l.foldl (fun acc a=>if a∈acc then acc else acc++[a]) []
def grpF {α:Type} [DecidableEq α] (l:List α):List (List Int):=((fsts l).map (cls l)).filter fun c=>decide (2<=c.length)
section
variable {α:Type} [DecidableEq α]
theorem Ac9 {l:List α} {a:α}:fsts (l++[a])=if a∈fsts l then fsts l else fsts l++[a]:=by
 unfold fsts;rw [List.foldl_append];rfl
theorem Afg {p:List α->Prop} (h0:p []) (h1:∀ l a,p l->p (l++[a])):∀ l,p l:=by
 intro l;have:∀ n (l:List α),l.length=n->p l:=by
  intro n
  induction n with
  | zero=>intro l hl;rw [List.length_eq_zero_iff.1 hl];exact h0
  | succ n ih=>
   intro l hl;have hne:l≠[]:=fun h=>by rw [h] at hl;simp at hl
   rw [← List.dropLast_concat_getLast hne];exact h1 _ _ (ih _ (by simp [hl]))
 exact this _ l rfl
theorem Agw {l:List α} {a:α}:a∈fsts l↔a∈l:=by
 refine Afg (p:=fun l=>a∈fsts l↔a∈l) (by simp [fsts]) (fun l b ih=>?_) l;rw [Ac9]
 split
 ·rename_i hb;rw [ih];simp only [List.mem_append,List.mem_singleton];constructor
  ·exact .inl
  ·rintro (h | rfl)
   ·exact h
   ·have:a∈fsts l:=hb;exact ih.1 this
 ·simp only [List.mem_append,List.mem_singleton,ih]
theorem Axb {l:List α}:(fsts l).Nodup:=by
 refine Afg (p:=fun l=>(fsts l).Nodup) (by simp [fsts]) (fun l b ih=>?_) l;rw [Ac9]
 split
 ·exact ih
 ·rename_i hb;rw [List.nodup_append];exact ⟨ih,by simp,fun x hx y hy=>by simp at hy;subst hy;exact fun h=>hb (h ▸ hx)⟩
theorem Akt {l:List α} {a b:α}:cls (l++[b]) a=if b=a then cls l a++[(l.length:Int)] else cls l a:=by
 unfold cls;rw [List.length_append,List.length_singleton,List.range_succ,List.filter_append,List.map_append];have h1:((List.range l.length).filter fun k=>decide ((l++[b])[k]? = some a))=(List.range l.length).filter fun k=>decide (l[k]? = some a):=by
  refine List.filter_congr fun k hk=>?_;rw [List.getElem?_append_left (by simpa using hk)]
 rw [h1];by_cases h:b=a
 ·simp [h]
 ·simp [h]
theorem Bcm {l:List α} {a:α} (h:a ∉ l):cls l a=[]:=by
 unfold cls;have:((List.range l.length).filter fun k=>decide (l[k]? = some a))=[]:=by
  rw [List.filter_eq_nil_iff];intro k _ hk;exact h (List.mem_of_getElem? (by simpa using hk))
 rw [this];rfl
theorem Ae8 {l:List α} {a:α} {i:Int}:i∈cls l a↔lget l i=some a:=by
 unfold cls;simp only [List.mem_map,List.mem_filter,List.mem_range,decide_eq_true_eq];constructor
 ·rintro ⟨k,⟨_,h⟩,rfl⟩;rw [Abx];exact h
 ·intro h;obtain ⟨h0,h1⟩:=Abf h;exact ⟨i.toNat,⟨(List.getElem?_eq_some_iff.1 h1).1,h1⟩,by omega⟩
end
def Adj (c:List Int):Bool:=decide (2<=c.length)
theorem As1 {c:List Int}:decide ((c.length:Int)<2)=!Adj c:=by
 unfold Adj;by_cases h:(c.length:Int)<2
 ·have:¬ 2<=c.length:=by omega
  simp [h,this]
 ·have:2<=c.length:=by omega
  simp [h,this]
def Aek:List (List Int)->Nat->Int
 | [],_=>-1
 | c::cs,k=>if Adj c then Aek cs (k+1) else (k:Int)
theorem Ali:∀ {l:List (List Int)} {k:Nat},(Aek l k = -1/\∀ c∈l,Adj c=true)∨∃ n:Nat,Aek l k=((k+n:Nat):Int)/\n<l.length/\(∀ c∈l.take n,Adj c=true)/\∃ c,l[n]? = some c/\Adj c=false
 | [],_=>.inl ⟨rfl,by simp⟩
 | c::l,k=>by
  simp only [Aek];cases hc:Adj c with
  | false=>exact .inr ⟨0,by simp,by simp,by simp,c,rfl,hc⟩
  | true=>
   simp only [if_true];rcases Ali (l:=l) (k:=k+1) with ⟨h1,h2⟩ | ⟨n,h1,h2,h3,h4⟩
   ·exact .inl ⟨h1,by simpa [hc] using h2⟩
   ·refine .inr ⟨n+1,by rw [h1];congr 1;omega,by simpa using h2,by simpa [hc] using h3,by simpa using h4⟩
def ixn {α:Type} [DecidableEq α]:List α->α->Nat
 | [],_=>0
 | b::l,a=>if b=a then 0 else ixn l a+1
theorem Azi {α:Type} [DecidableEq α] {a:α}:∀ {l:List α},a∈l->ixn l a<l.length
 | [],h=>by cases h
 | b::l,h=>by
  simp only [ixn,List.length_cons]
  split
  ·omega
  ·rename_i hb;have:=Azi (l:=l) (a:=a) ((List.mem_cons.1 h).resolve_left fun h=>hb h.symm);omega
theorem Ar0 {α:Type} [DecidableEq α] {a:α}:∀ {l:List α},a∈l->l[ixn l a]? = some a
 | [],h=>by cases h
 | b::l,h=>by
  simp only [ixn]
  split
  ·rename_i hb;subst hb;rfl
  ·rename_i hb;rw [List.getElem?_cons_succ];exact Ar0 ((List.mem_cons.1 h).resolve_left fun h=>hb h.symm)
theorem Azh {α:Type} [DecidableEq α] {a:α}:∀ {l m:List α},a∈l->ixn (l++m) a=ixn l a
 | [],_,h=>by cases h
 | b::l,m,h=>by
  simp only [List.cons_append,ixn]
  split
  ·rfl
  ·rename_i hb;rw [Azh ((List.mem_cons.1 h).resolve_left fun h=>hb h.symm)]
theorem Au5 {α:Type} [DecidableEq α] {a:α}:∀ {l:List α},a ∉ l->ixn (l++[a]) a=l.length
 | [],_=>by simp [ixn]
 | b::l,h=>by
  simp only [List.mem_cons,not_or] at h;simp only [List.cons_append,ixn,if_neg (Ne.symm h.1),List.length_cons];rw [Au5 h.2]
theorem Au6 {α:Type} [DecidableEq α] {a:α}:∀ {l:List α} {q:Nat},l.Nodup->l[q]? = some a->ixn l a=q
 | [],q,_,h=>by simp at h
 | b::l,0,_,h=>by
  simp only [List.getElem?_cons_zero,zJ] at h;simp [ixn,h]
 | b::l,q+1,hl,h=>by
  simp only [List.getElem?_cons_succ] at h;have hn:=List.nodup_cons.1 hl;have:b≠a:=fun hb=>hn.1 (hb ▸ List.mem_of_getElem? h);simp only [ixn,if_neg this,Au6 hn.2 h]
def ixOf {α:Type} [DecidableEq α] (m:List (α×Int)) (ks:List α):Prop:=∀ a,mget a m=if a∈ks then some ((ixn ks a:Nat):Int) else none
theorem Asc {κ ν:Type} [DecidableEq κ] {k k':κ} {v:ν}:∀ {l:List (κ×ν)},mget k' (mset k v l)=if k=k' then some v else mget k' l
 | []=>by
  by_cases h:k=k'
  ·subst h;simp [mset,mget]
  ·simp [mset,mget,h,Ne.symm h]
 | (a,b)::l=>by
  have ih:=Asc (k:=k) (k':=k') (v:=v) (l:=l);simp only [mset];by_cases h1:k=a
  ·subst h1;simp only [if_true,mget];by_cases h2:k'=k
   ·subst h2;simp
   ·simp [h2,Ne.symm h2]
  ·simp only [if_neg h1,mget];by_cases h2:k'=a
   ·subst h2;simp [h1]
   ·simp only [if_neg h2];exact ih
end Go.Own
namespace Go.Own
open Go.Proofs D
set_option maxRecDepth 100000
set_option maxHeartbeats 4000000
namespace q21_
noncomputable def B:Code:=(Tryz.f101.body).getD .skip
def W:List Nat:=[0,2]
def res (r:Bool):D×List D:=(.lit (.bool r),[])
def C (x0:List Int) (r:Bool):Prop:=Ret env 101 [.sl (x0.map (eI .i64))] (res r).1 (res r).2
theorem enter (x0:List Int) (φ:Bool->Prop) (h :
 φ ((decide ((x0.length:Int)<2)))):∃ r,φ r/\C x0 r:=
 mEnt (fd:=Tryz.f101) (body:=B) (V:=W) (res:=res) <|
 mLen 5 (eI .i64) x0 <|
 mRet 3 h
end q21_
namespace q3_
noncomputable def B:Code:=(Tryz.f95.body).getD .skip
def W:List Nat:=[0,1,4,5,7,8,9,16]
def res (r:Int):D×List D:=(.lit (.int .i64 r),[])
def C (x0:List (List Int)) (r:Int):Prop:=Ret env 95 [.sl (x0.map (eSl (eI .i64))),.fn 101 []] (res r).1 (res r).2
def L1 (x0:List (List Int)) (z0:Int) (φ:Int->Prop):Prop:=Pt env 95 W B [1,0,1,0] [(0,.sl (x0.map (eSl (eI .i64)))),(1,.fn 101 []),(7,.lit (.int .i64 ((x0.length:Int)))),(8,.lit (.int .i64 z0))] (Lv env 95 Tryz.f95 2 res φ)
theorem L1_step (x0:List (List Int)) (z0:Int) (φ:Int->Prop) (h :
 (if z0<(x0.length:Int) then
 ∃ a1,lget x0 z0=some a1 /\
 ∃ r3:Bool,q21_.C a1 r3 /\
 (if r3=true then
 φ z0
 else
 q3_.L1 x0 ((IntKind.wrap .i64 (z0+1))) φ)
 else
 φ ((-1)))):L1 x0 z0 φ:=
 mIn <|
 mAsk 2 h dT dF (fun h=>
 mIx 11 (eSl (eI .i64)) h fun a1 h2 h=>
 Abr 1 h (fun _ h=>h) (fun _ h=>
 mRet 6 h) fun _ h=>
 mFin 7 h) fun h=>
 mRet 6 h
theorem enter (x0:List (List Int)) (φ:Int->Prop) (h :
 q3_.L1 x0 0 φ):∃ r,φ r/\C x0 r:=
 mEnt (fd:=Tryz.f95) (body:=B) (V:=W) (res:=res) <|
 mLen 5 (eSl (eI .i64)) x0 <|
 mFin 2 h
end q3_
namespace q2_
noncomputable def B:Code:=(Tryz.f100.body).getD .skip
def W:List Nat:=[0,1,4,5,6,7,12,19,29]
def res (r:(List (List Int)×Bool)):D×List D:=((sown (r.1.map (eSl (eI .i64))) r.2),[])
def C (k0_0:List (List Int)) (r:(List (List Int)×Bool)):Prop:=Ret env 100 [.own (k0_0.map (eSl (eI .i64))),.fn 101 []] (res r).1 (res r).2
def L1 (k0_0:List (List Int)) (r1 z0:Int) (φ:(List (List Int)×Bool)->Prop):Prop:=Pt env 100 W B [1,1,1,0,1,0] [(0,.own (k0_0.map (eSl (eI .i64)))),(1,.fn 101 []),(5,.lit (.int .i64 r1)),(6,.lit (.int .i64 z0))] (Lv env 100 Tryz.f100 2 res φ)
def L2 (k0_0:List (List Int)) (r1 z0:Int) (φ:(List (List Int)×Bool)->Prop):Prop:=Pt env 100 W B [1,1,1,0,1,0,0,1,1] [(0,.own (k0_0.map (eSl (eI .i64)))),(1,.fn 101 []),(5,.lit (.int .i64 r1)),(6,.lit (.int .i64 z0))] (Lv env 100 Tryz.f100 2 res φ)
theorem L1_step (k0_0:List (List Int)) (r1 z0:Int) (φ:(List (List Int)×Bool)->Prop) (h :
 (if z0<(k0_0.length:Int) then
 ∃ a2,lget k0_0 z0=some a2 /\
 ∃ r4:Bool,q21_.C a2 r4 /\
 (if r4=true then
 q2_.L2 k0_0 r1 z0 φ
 else
 ∃ a5,lget k0_0 r1=some a5 /\
 q2_.L2 ((lset k0_0 r1 a2)) ((IntKind.wrap .i64 (r1+1))) z0 φ)
 else
 0<=r1 /\
 (r1.toNat<=k0_0.length/\k0_0.length<=k0_0.length) /\
 r1.toNat+(k0_0.length-r1.toNat)<=k0_0.length /\
 0<=r1 /\
 r1.toNat+(k0_0.length-r1.toNat)<=k0_0.length /\
 r1.toNat<=k0_0.length /\
 (r1.toNat+(k0_0.length-r1.toNat)<=k0_0.length/\r1.toNat<=k0_0.length/\r1.toNat<=r1.toNat) /\
 φ (⟨(List.take r1.toNat k0_0),(!(((List.take r1.toNat k0_0)).isEmpty))⟩))):L1 k0_0 r1 z0 φ:=
 mIn <|
 mLen 4 (eSl (eI .i64)) k0_0 <|
 mAsk 0 h dT dF (fun h=>
 mIy 6 (eSl (eI .i64)) h fun a2 h3 h=>
 mLd 0 (eSl (eI .i64)) h3 <|
 Abr 5 h (fun _ h=>h) (fun _ h=>
 mFin 4 h) fun _ h=>
 mIy 7 (eSl (eI .i64)) h fun a5 h6 h=>
 mSto 0 (eSl (eI .i64)) a2 h6 <|
 mFin 6 h) fun h=>
 h.elim fun h7 h=>
 h.elim fun h8 h=>
 mVl 6 (Amm (s:=0) (ps:=[]) (t:=93) (x:=(.tmp 36)) (lo:=(some (.tmp 37))) (hi:=none) (lo':=some (r1).toNat) (hi':=none) (e:=(eSl (eI .i64))) (l:=k0_0) (et:=35) (k:=1) (by kernel_rfl) (by kernel_rfl) (Ag2 (by kernel_rfl)) (Acv (i:=r1) (q:=.i64) (by kernel_rfl) h7) Acu (by kernel_rfl) (by kernel_rfl) (fun _=>rfl) (by kernel_rfl) h8.1 h8.2) <|
 h.elim fun h9 h=>
 mOp 0 (Bbp (t:=93) (x:=(.tmp 38)) (s:=0) (ps:=[]) (off:=r1.toNat) (len:=(k0_0.length-r1.toNat)) (l:=k0_0) (e:=(eSl (eI .i64))) (et:=35) (z:=.own []) (k:=1) (by kernel_rfl) (by kernel_rfl) (by kernel_rfl) (by kernel_rfl) (by kernel_rfl) (by kernel_rfl) (by kernel_rfl) (by kernel_rfl) (fun _=>rfl) h9 (by kernel_rfl)) <|
 h.elim fun h10 h=>
 h.elim fun h11 h=>
 h.elim fun h12 h=>
 mVl 4 (At0 (t:=93) (x:=(.tmp 39)) (hi:=(some (.tmp 40))) (hi':=r1.toNat) (e:=(eSl (eI .i64))) (l:=k0_0) (off:=r1.toNat) (len:=(k0_0.length-r1.toNat)) (z:=.own []) (et:=35) (k:=1) (s:=0) (ps:=[]) (by kernel_rfl) (by kernel_rfl) (by kernel_rfl) (Acv (i:=r1) (q:=.i64) (by kernel_rfl) h10) (by kernel_rfl) (by kernel_rfl) (fun _=>rfl) (by kernel_rfl) (by kernel_rfl) h11 h12) <|
 h.elim fun h13 h=>
 mRet 2 h (hl:=(Azq (t:=4) (s:=0) (n:=r1.toNat) (m:=(List.take r1.toNat k0_0)) (e:=(eSl (eI .i64))) (es:=clr (eSl (eI .i64)) k0_0 r1.toNat (k0_0.length-r1.toNat) (.own [])) (by kernel_rfl) (by kernel_rfl) (by kernel_rfl) (by rw [Awa (by first | exact h13.1 | omega)];exact h13.2.1) (Bb1 h13.1 h13.2.2) (by kernel_rfl)))
theorem L2_step (k0_0:List (List Int)) (r1 z0:Int) (φ:(List (List Int)×Bool)->Prop) (h :
 q2_.L1 k0_0 r1 ((IntKind.wrap .i64 (z0+1))) φ):L2 k0_0 r1 z0 φ:=
 mIn <|
 mFin 5 h
theorem enter (k0_0:List (List Int)) (φ:(List (List Int)×Bool)->Prop) (h :
 ∃ r1:Int,q3_.C k0_0 r1 /\
 (if r1=(-1) then
 φ (⟨k0_0,true⟩)
 else
 q2_.L1 k0_0 r1 ((IntKind.wrap .i64 (r1+1))) φ)):∃ r,φ r/\C k0_0 r:=
 mEnt (fd:=Tryz.f100) (body:=B) (V:=W) (res:=res) <|
 mCal 6 h (fun _ h=>h) (hr:=by exact (Agy (Akf (s:=0) (ps:=[]) (l:=k0_0) (e:=(eSl (eI .i64))) (e':=(eSl (eI .i64))) (fun _=>rfl) (by kernel_rfl)) (pr_k Akd))) fun r1 _ h=>
 mAsk 4 h Aay Aax (fun h=>
 mRet 6 h) fun h=>
 mFin 8 h
end q2_
namespace q23_
noncomputable def B:Code:=(Tryz.f76.body).getD .skip
def W:List Nat:=[0,2,3,4,5,6,7,8,10,11,12,13,24]
def res (r:List (List Int)):D×List D:=(.sl (r.map (eSl (eI .i64))),[])
def C (x0:List ByteArray) (r:List (List Int)):Prop:=Ret env 76 [.sl (x0.map eS)] (res r).1 (res r).2
def L1 (x0:List ByteArray) (z0:List (ByteArray×Int)) (z1:List (List Int)) (z2:Int) (φ:List (List Int)->Prop):Prop:=Pt env 76 W B [1,1,1,0,1,0] [(0,.sl (x0.map eS)),(3,(eMap Value.string (fun (x:Int)=>D.lit (.int .i64 x)) z0)),(4,.own (z1.map (eOw (eI .i64)))),(10,.sl (x0.map eS)),(11,.lit (.int .i64 ((x0.length:Int)))),(12,.lit (.int .i64 z2))] (Lv env 76 Tryz.f76 1 res φ)
def L2 (x0:List ByteArray) (z0:List (ByteArray×Int)) (z1:List (List Int)) (z2 z3:Int) (φ:List (List Int)->Prop):Prop:=Pt env 76 W B [1,1,1,0,1,0,0,1,1,0,0,1,1,1] [(0,.sl (x0.map eS)),(3,(eMap Value.string (fun (x:Int)=>D.lit (.int .i64 x)) z0)),(4,.own (z1.map (eOw (eI .i64)))),(5,.lit (.int .i64 z2)),(7,.lit (.int .i64 z3)),(10,.sl (x0.map eS)),(11,.lit (.int .i64 ((x0.length:Int)))),(12,.lit (.int .i64 z2))] (Lv env 76 Tryz.f76 1 res φ)
theorem L1_step (x0:List ByteArray) (z0:List (ByteArray×Int)) (z1:List (List Int)) (z2:Int) (φ:List (List Int)->Prop) (h :
 (if z2<(x0.length:Int) then
 ∃ a1,lget x0 z2=some a1 /\
 (if (mhas a1 z0)=true then
 q23_.L2 x0 z0 z1 z2 ((Axm a1 z0 0)) φ
 else
 (z1.length+1)*24<=140737488355328 /\
 q23_.L2 x0 ((mset a1 (z1.length:Int) z0)) ((z1++[[]])) z2 ((z1.length:Int)) φ)
 else
 ∃ r4:(List (List Int)×Bool),q2_.C z1 r4 /\
 φ r4.1)):L1 x0 z0 z1 z2 φ:=
 mIn <|
 mAsk 2 h dT dF (fun h=>
 mIx 5 eS h fun a1 h2 h=>
 mVl 7 (Av0 Azj (fun _=>by kernel_rfl) (ek:=Value.string) (ev:=(fun (x:Int)=>D.lit (.int .i64 x))) (t:=168) (x:=(.tmp 18)) (kx:=(.tmp 19)) (s:=3) (ps:=[]) (l:=z0) (kd:=.lit (.string a1)) (kv:=a1) (kt:=9) (vt:=3) (v0:=0) (by kernel_rfl) (by kernel_rfl) (by kernel_rfl) (by kernel_rfl) (by kernel_rfl) (by kernel_rfl) (by kernel_rfl) (by kernel_rfl)) <|
 mAsk 7 h id fls (fun h=>
 mFin 4 h) fun h=>
 mLen 5 (eOw (eI .i64)) z1 <|
 mOp 6 (Auo Azj (fun _=>by kernel_rfl) (ek:=Value.string) (ev:=(fun (x:Int)=>D.lit (.int .i64 x))) (t:=168) (mx:=(.tmp 27)) (kx:=(.tmp 28)) (vx:=(.tmp 29)) (s:=3) (ps:=[]) (l:=z0) (kd:=.lit (.string a1)) (kv:=a1) (kt:=9) (vt:=3) (v:=(z1.length:Int)) (d:=.lit (.int .i64 ((z1.length:Int)))) (by kernel_rfl) (by kernel_rfl) (by kernel_rfl) (by kernel_rfl) (by kernel_rfl) (by kernel_rfl) (by kernel_rfl) (by kernel_rfl) (by kernel_rfl) (Ana (by kernel_rfl))) <|
 mApp 4 (eOw (eI .i64)) z1 ([[]]) h fun h=>
 mFin 2 h) fun h=>
 mXit 2 [(4,.own (z1.map (eSl (eI .i64))))] (Ay9 (F0:=[(4,.own (z1.map (eOw (eI .i64))))]) (l:=z1) (e:=(eI .i64)) (e':=(eI .i64)) (s:=4) (by kernel_rfl) (by kernel_rfl) (by kernel_rfl) (fun _=>rfl) (by kernel_rfl) (by kernel_rfl)) <|
 Aq0 2 h (fun _ h=>h) (fun (r4:(List (List Int)×Bool))=>Az2 (l:=r4.1) (e:=(eSl (eI .i64))) rfl (fun _=>rfl)) (hf:=(fun _=>Agp)) fun r4 _ h=>
 mRet 2 h
theorem L2_step (x0:List ByteArray) (z0:List (ByteArray×Int)) (z1:List (List Int)) (z2 z3:Int) (φ:List (List Int)->Prop) (h :
 ∃ a5,lget z1 z3=some a5 /\
 (a5.length+1)*8<=140737488355328 /\
 q23_.L1 x0 z0 ((lset z1 z3 (a5++[z2]))) ((IntKind.wrap .i64 (z2+1))) φ):L2 x0 z0 z1 z2 z3 φ:=
 mIn <|
 mIy 5 (eOw (eI .i64)) h fun a5 h6 h=>
 mLd 0 (eOw (eI .i64)) h6 <|
 h.elim fun h7 h=>
 mOp 2 (app2 (x:=(.tmp 38)) (y:=(.tmp 40)) (t:=35) (u:=35) (et:=3) (z:=.lit (.int .i64 0)) (k:=1) (c:=8) (e:=(eI .i64)) (l:=a5) (m:=[z2]) (by kernel_rfl) (by kernel_rfl) (by kernel_rfl) (by kernel_rfl) (by kernel_rfl) (Bdr (s:=4) (ps:=[]) (n:=(z3.toNat)) (c:=0) (e:=(eOw (eI .i64))) (l:=z1) (a:=a5) (by kernel_rfl) (by kernel_rfl) (Abf h6).2 (by kernel_rfl) (by kernel_rfl) (Ana (by kernel_rfl))) (by kernel_rfl) (by kernel_rfl) (by kernel_rfl) (by kernel_rfl) (by kernel_rfl) (fun _=>rfl) h7) <|
 mVl 0 (Auy (s:=4) (ps:=[]) (cs:=[.undef]) (t:=93) (x:=(.tmp 33)) (ix:=(.tmp 34)) (et:=35) (k:=1) (e:=(eOw (eI .i64))) (l:=z1) (i:=z3) (q:=.i64) (a:=a5) (by kernel_rfl) (by kernel_rfl) (by kernel_rfl) (by kernel_rfl) (by kernel_rfl) (by kernel_rfl) h6 (by kernel_rfl)) <|
 mOp 0 (Bgj (t:=35) (x:=(.tmp 42)) (y:=(.tmp 41)) (s:=4) (ps:=[]) (n:=(z3.toNat)) (e:=(eOw (eI .i64))) (l:=z1) (a:=a5) (b:=(a5++[z2])) (k:=1) (cs:=[.undef]) (d:=.own (((a5++[z2])).map (eI .i64))) (by kernel_rfl) (by kernel_rfl) (by kernel_rfl) (by kernel_rfl) (Abf h6).2 (by kernel_rfl) (by kernel_rfl) (by kernel_rfl) (by kernel_rfl) (by kernel_rfl) (Ana (by kernel_rfl))) <|
 mFin 5 h
theorem enter (x0:List ByteArray) (φ:List (List Int)->Prop) (h :
 q23_.L1 x0 ([]) ([]) 0 φ):∃ r,φ r/\C x0 r:=
 mEnt (fd:=Tryz.f76) (body:=B) (V:=W) (res:=res) <|
 mLen 12 eS x0 <|
 mFin 2 h
end q23_
end Go.Own
namespace Go.Own
theorem q21_.spec {c:List Int}:q21_.C c (decide ((c.length:Int)<2)):=by
 obtain ⟨r,h1,h2⟩:=q21_.enter c (fun r=>r=decide ((c.length:Int)<2)) rfl;rw [← h1];exact h2
namespace q3_
theorem loop {x0:List (List Int)} {φ:Int->Prop} (hn:x0.length<Big):∀ (r:List (List Int)) (k:Nat),x0.drop k=r->φ (Aek r k)->L1 x0 k φ
 | [],k,hd,h=>by
  apply L1_step;have:=Ab3 hd;rw [if_neg (by omega)];exact h
 | c::r,k,hd,h=>by
  apply L1_step;have hk:=Ab4 hd;rw [if_pos (by omega)];refine ⟨c,Acs hd,_,q21_.spec,?_⟩;rw [As1];simp only [Aek] at h
  split
  ·rename_i h1;have:Adj c=false:=by simpa using h1
   rw [this] at h;exact h
  ·rename_i h1;have:Adj c=true:=by simpa using h1
   rw [this] at h;rw [Aa4 (by unfold Big at hn;omega)];exact loop hn r (k+1) (Aah hd) h
theorem spec {x0:List (List Int)} (hn:x0.length<Big):C x0 (Aek x0 0):=by
 obtain ⟨r,h1,h2⟩:=enter x0 (fun r=>r=Aek x0 0) (loop hn x0 0 rfl rfl);rw [← h1];exact h2
end q3_
namespace q2_
theorem loop {x0:List (List Int)} {φ:List (List Int)×Bool->Prop} (hn:x0.length<Big) (hφ:∀ b,φ (x0.filter Adj,b)):∀ (r:List (List Int)) (k j:Nat) (l:List (List Int)),x0.drop k=r->l.length=x0.length->l.drop k=x0.drop k->l.take j=(x0.take k).filter Adj->j<=k->k<=x0.length->L1 l j k φ
 | [],k,j,l,hd,hl,h1,h2,h3,h4=>by
  apply L1_step;have hk:=Ab3 hd;rw [if_neg (by omega)];refine ⟨by omega,⟨by omega,by omega⟩,by omega,by omega,by omega,by omega,⟨by omega,by omega,by omega⟩,?_⟩;rw [Int.toNat_natCast,h2,List.take_of_length_le hk];exact hφ _
 | c::r,k,j,l,hd,hl,h1,h2,h3,h4=>by
  apply L1_step;have hk:=Ab4 hd;rw [if_pos (by omega)];have hlk:l.drop k=c::r:=by rw [h1,hd]
  refine ⟨c,Acs hlk,_,q21_.spec,?_⟩;rw [As1];have htk:x0.take (k+1)=x0.take k++[c]:=by rw [List.take_add_one,Aap hd];rfl
  split
  ·rename_i hc;have hc:Adj c=false:=by simpa using hc
   apply L2_step;rw [Aa4 (by unfold Big at hn;omega)];refine loop hn hφ r (k+1) j l (Aah hd) hl ?_ ?_ (by omega) (by omega)
   ·rw [Aah hlk,Aah hd]
   ·rw [htk,List.filter_append,h2];simp [hc]
  ·rename_i hc;have hc:Adj c=true:=by simpa using hc
   obtain ⟨a,ha⟩:=Afv (l:=l) (i:=(j:Int)) (by omega) (by omega);refine ⟨a,ha,?_⟩;apply L2_step;rw [Aa4 (by unfold Big at hn;omega),Aa4 (by unfold Big at hn;omega)];have hs:lset l (j:Int) c=l.set j c:=by simp [lset]
   rw [hs];refine loop hn hφ r (k+1) (j+1) (l.set j c) (Aah hd) (by simp [hl]) ?_ ?_ (by omega) (by omega)
   ·rw [List.drop_set_of_lt (by omega),Aah hlk,Aah hd]
   ·rw [htk,List.filter_append,← h2,List.take_add_one];have e1:(l.set j c)[j]? = some c:=by rw [List.getElem?_set_self (by omega)]
    rw [e1,List.take_set_of_le (by omega)];simp [hc]
theorem spec {x0:List (List Int)} (hn:x0.length<Big):∃ b,C x0 (x0.filter Adj,b):=by
 obtain ⟨r,h1,h2⟩:=enter x0 (fun r=>r.1=x0.filter Adj) (by
  refine ⟨_,q3_.spec hn,?_⟩;rcases Ali (l:=x0) (k:=0) with ⟨h1,h2⟩ | ⟨n,h1,h2,h3,c,h4,h5⟩
  ·rw [if_pos h1];exact (List.filter_eq_self.2 h2).symm
  ·rw [if_neg (by omega),h1,Nat.zero_add,Aa4 (by unfold Big at hn;omega)];refine loop (φ:=fun r=>r.1=x0.filter Adj) hn (fun b=>rfl) _ (n+1) n x0 rfl rfl rfl ?_ (by omega) (by omega);have htk:x0.take (n+1)=x0.take n++[c]:=by rw [List.take_add_one,h4];rfl
   rw [htk,List.filter_append,List.filter_eq_self.2 h3]
   simp [h5])
 obtain ⟨l,b⟩:=r;simp only at h1;subst h1;exact ⟨b,h2⟩
end q2_
namespace q23_
theorem loop {x0:List ByteArray} {φ:List (List Int)->Prop} (hn:x0.length<=10000) (hφ:φ (grpF x0)):∀ (r:List ByteArray) (k:Nat) (m:List (ByteArray×Int)),x0.drop k=r->ixOf m (fsts (x0.take k))->L1 x0 m ((fsts (x0.take k)).map (cls (x0.take k))) k φ
 | [],k,m,hd,hm=>by
  apply L1_step;have hk:=Ab3 hd;rw [if_neg (by omega),List.take_of_length_le hk];have hlen:((fsts x0).map (cls x0)).length<Big:=by
   rw [List.length_map];have:∀ l:List ByteArray,(fsts l).length<=l.length:=by
    intro l;refine Afg (p:=fun l=>(fsts l).length<=l.length) (by simp [fsts]) (fun l b ih=>?_) l;rw [Ac9]
    split
    ·simp;omega
    ·simp;omega
   have:=this x0;unfold Big;omega
  obtain ⟨b,hb⟩:=q2_.spec hlen;exact ⟨_,hb,hφ⟩
 | a::r,k,m,hd,hm=>by
  apply L1_step;have hk:=Ab4 hd;rw [if_pos (by omega)];refine ⟨a,Acs hd,?_⟩;have htk:x0.take (k+1)=x0.take k++[a]:=by rw [List.take_add_one,Aap hd];rfl
  have hlen:(x0.take k).length=k:=by rw [List.length_take];omega
  have hle:(fsts (x0.take k)).length<=10000:=by
   have:∀ l:List ByteArray,(fsts l).length<=l.length:=by
    intro l;refine Afg (p:=fun l=>(fsts l).length<=l.length) (by simp [fsts]) (fun l b ih=>?_) l;rw [Ac9]
    split
    ·simp;omega
    ·simp;omega
   have:=this (x0.take k);omega
  have hcl:∀ b,(cls (x0.take k) b).length<=10000:=fun b=>by
   unfold cls;rw [List.length_map];exact Nat.le_trans (List.length_filter_le _ _) (by simp;omega)
  by_cases ha:a∈fsts (x0.take k)
  ·have hg:mget a m=some ((ixn (fsts (x0.take k)) a:Nat):Int):=by rw [hm a,if_pos ha]
   rw [if_pos (by simp [mhas,hg])];apply L2_step;have hi:ixn (fsts (x0.take k)) a<(fsts (x0.take k)).length:=Azi ha;have hgd:Axm a m 0=((ixn (fsts (x0.take k)) a:Nat):Int):=by simp [Axm,hg]
   rw [hgd];refine ⟨cls (x0.take k) a,?_,by have:=hcl a;omega,?_⟩
   ·rw [Abx,List.getElem?_map,Ar0 ha];rfl
   ·rw [Aa4 (by omega)];have ih:=loop hn hφ r (k+1) m (Aah hd) (by rw [htk,Ac9,if_pos ha];exact hm);rw [htk,Ac9,if_pos ha] at ih;have e:(fsts (x0.take k)).map (cls (x0.take k++[a]))=lset ((fsts (x0.take k)).map (cls (x0.take k))) ((ixn (fsts (x0.take k)) a:Nat):Int) (cls (x0.take k) a++[(k:Int)]):=by
     unfold lset;rw [Int.toNat_natCast];apply List.ext_getElem?;intro q;rw [List.getElem?_map,List.getElem?_set,List.getElem?_map,List.length_map];by_cases hq:ixn (fsts (x0.take k)) a=q
     ·subst hq;rw [if_pos rfl,if_pos hi,Ar0 ha];simp [Akt,hlen]
     ·rw [if_neg hq];cases hv:(fsts (x0.take k))[q]? with
      | none=>rfl
      | some b=>
       simp only [Option.map_some,zJ];rw [Akt,if_neg];rintro rfl;exact hq (Au6 Axb hv)
    rw [e] at ih;exact ih
  ·have hg:mget a m=none:=by rw [hm a,if_neg ha]
   rw [if_neg (by simp [mhas,hg])];have hal:a ∉ x0.take k:=fun h=>ha (Agw.2 h);refine ⟨by rw [List.length_map];omega,?_⟩;apply L2_step;refine ⟨[],?_,by simp,?_⟩
   ·rw [Abx,List.getElem?_append_right (Nat.le_refl _)];simp
   ·rw [Aa4 (by omega),List.length_map];have ih:=loop hn hφ r (k+1) (mset a ((fsts (x0.take k)).length:Int) m) (Aah hd) (by
     rw [htk,Ac9,if_neg ha];intro b;rw [Asc];by_cases hab:a=b
     ·subst hab;rw [if_pos rfl,if_pos (by simp),Au5 ha]
     ·rw [if_neg hab,hm b];have:b∈fsts (x0.take k)++[a]↔b∈fsts (x0.take k):=by simp [Ne.symm hab]
      by_cases hb:b∈fsts (x0.take k)
      ·rw [if_pos hb,if_pos (this.2 hb),Azh hb]
      ·rw [if_neg hb,if_neg (fun h=>hb (this.1 h))])
    rw [htk,Ac9,if_neg ha] at ih;have e:(fsts (x0.take k)++[a]).map (cls (x0.take k++[a]))=lset ((fsts (x0.take k)).map (cls (x0.take k))++[[]]) ((fsts (x0.take k)).length:Int) ([]++[(k:Int)]):=by
     unfold lset;rw [Int.toNat_natCast,List.set_append_right _ _ (by simp),List.length_map,Nat.sub_self,List.set_cons_zero,List.map_append];congr 1
     ·refine List.map_congr_left fun b hb=>?_;rw [Akt,if_neg];rintro rfl;exact ha hb
     ·simp [Akt,Bcm hal,hlen]
    rw [e] at ih;exact ih
theorem spec {x0:List ByteArray} (hn:x0.length<=10000):C x0 (grpF x0):=by
 obtain ⟨r,h1,h2⟩:=enter x0 (fun r=>r=grpF x0) (by
  have:=loop (φ:=fun r=>r=grpF x0) hn rfl x0 0 [] rfl (by intro a;simp [mget,fsts])
  simpa [fsts] using this)
 rw [← h1];exact h2
end q23_
section
variable {α β:Type} [DecidableEq α] [DecidableEq β]
structure Alike (l:List α) (m:List β):Prop where
 len:l.length=m.length
 iff:∀ i j:Nat,i<l.length->j<l.length->(l[i]? = l[j]?↔m[i]? = m[j]?)
theorem Az1 {l:List α} {m:List β} (h:Alike l m) {k:Nat} {a:α} {b:β} (ha:l[k]? = some a) (hb:m[k]? = some b):cls l a=cls m b:=by
 unfold cls;rw [h.len];congr 1;refine List.filter_congr fun i hi=>?_;have hk:=(List.getElem?_eq_some_iff.1 ha).1;have:=h.iff i k (by rw [h.len];simpa using hi) hk;rw [ha,hb] at this;rw [decide_eq_decide];exact this
theorem Aim {l:List α} {k:Nat} {a:α}:a∈l.take k↔∃ j,j<k/\l[j]? = some a:=by
 rw [List.mem_iff_getElem?];constructor
 ·rintro ⟨j,hj⟩;rw [List.getElem?_take] at hj
  split at hj
  ·rename_i h;exact ⟨j,h,hj⟩
  ·cases hj
 ·rintro ⟨j,h1,h2⟩;exact ⟨j,by rw [List.getElem?_take_of_lt h1];exact h2⟩
theorem Ae4 {l:List α} {k:Nat} {a:α} (h:l[k]? = some a):l.take (k+1)=l.take k++[a]:=by rw [List.take_add_one,h];rfl
theorem Asb {l:List α} {m:List β} (h:Alike l m):∀ k,k<=l.length->(fsts (l.take k)).map (cls l)=(fsts (m.take k)).map (cls m)
 | 0,_=>by simp [fsts]
 | k+1,hk=>by
  have ih:=Asb h k (by omega);have hl:=List.getElem?_eq_getElem (l:=l) (i:=k) (by omega);have hm:=List.getElem?_eq_getElem (l:=m) (i:=k) (by rw [← h.len];omega);rw [Ae4 hl,Ae4 hm,Ac9,Ac9];have e:l[k]∈fsts (l.take k)↔m[k]'(by rw [← h.len];omega)∈fsts (m.take k):=by
   rw [Agw,Agw,Aim,Aim];constructor
   ·rintro ⟨j,h1,h2⟩;refine ⟨j,h1,?_⟩;rw [← hm,← h.iff j k (by omega) (by omega),h2,hl]
   ·rintro ⟨j,h1,h2⟩;refine ⟨j,h1,?_⟩;rw [← hl,h.iff j k (by omega) (by omega),h2,hm]
  by_cases hin:l[k]∈fsts (l.take k)
  ·rw [if_pos hin,if_pos (e.1 hin)];exact ih
  ·rw [if_neg hin,if_neg (fun hh=>hin (e.2 hh)),List.map_append,List.map_append,ih];simp only [List.map_cons,List.map_nil,Az1 h hl hm]
theorem Axc {l:List α} {m:List β} (h:Alike l m):grpF l=grpF m:=by
 have:=Asb h l.length (Nat.le_refl _);rw [List.take_length,h.len,List.take_length] at this;unfold grpF;rw [this]
theorem Ap2 {l:List α} {a:α}:(cls l a).Pairwise (·<·):=by
 unfold cls;rw [List.pairwise_map];refine List.Pairwise.imp ?_ (List.pairwise_lt_range.filter _);intro i j h;omega
theorem Bcs {c:List Int} (h:c.Pairwise (·<·)) {i:Int} (hi:i∈c):c.headD 0<=i:=by
 match c,h,hi with
 | a::t,h,hi=>
  simp only [List.headD_cons];rcases List.mem_cons.1 hi with rfl | hi
  ·omega
  ·have:=(List.pairwise_cons.1 h).1 i hi;omega
theorem Bbb {c:List Int} (h:c≠[]):c.headD 0∈c:=by
 match c,h with
 | a::t,_=>simp
theorem Be3 {l:List α} {a:α} (h:a∈l):cls l a≠[]:=by
 obtain ⟨k,hk⟩:=List.mem_iff_getElem?.1 h;intro hn;have:((k:Nat):Int)∈cls l a:=Ae8.2 (by rw [Abx];exact hk);rw [hn] at this;cases this
theorem Ary {l:List α}:∀ k,k<=l.length->((fsts (l.take k)).map (cls l)).Pairwise (fun c d=>c.headD 0<d.headD 0/\∀ i∈c,i ∉ d)/\∀ a∈fsts (l.take k),(cls l a).headD 0<(k:Int)
 | 0,_=>by simp [fsts]
 | k+1,hk=>by
  obtain ⟨i1,i2⟩:=Ary (l:=l) k (by omega);obtain ⟨x,hl⟩:∃ x,l[k]? = some x:=⟨_,List.getElem?_eq_getElem (by omega)⟩
  rw [Ae4 hl,Ac9]
  split
  ·exact ⟨i1,fun a ha=>by have:=i2 a ha;omega⟩
  ·rename_i hin;have hne:=Be3 (List.mem_of_getElem? hl);have hkm:((k:Nat):Int)∈cls l x:=Ae8.2 (by rw [Abx];exact hl);have hhead:(cls l x).headD 0=(k:Int):=by
    have h1:=Bcs Ap2 hkm;have h2:=Ae8.1 (Bbb hne);obtain ⟨h3,h4⟩:=Abf h2;rcases Int.lt_or_le ((cls l x).headD 0) (k:Int) with h5 | h5
    ·exfalso;apply hin;rw [Agw,Aim];exact ⟨_,by omega,h4⟩
    ·omega
   refine ⟨?_,?_⟩
   ·rw [List.map_append,List.pairwise_append];refine ⟨i1,by simp,fun c hc d hd=>?_⟩;simp only [List.map_cons,List.map_nil,List.mem_singleton] at hd;subst hd;obtain ⟨b,hb,rfl⟩:=List.mem_map.1 hc;refine ⟨by rw [hhead];exact i2 b hb,fun i hi hi2=>?_⟩;have e:=(Ae8.1 hi).symm.trans (Ae8.1 hi2);rw [Option.some.inj e] at hb;exact hin hb
   ·intro a ha;rcases List.mem_append.1 ha with ha | ha
    ·have:=i2 a ha;omega
    ·simp only [List.mem_singleton] at ha;subst ha;rw [hhead];omega
def part (l:List α):api_Partition:=⟨l.length,grpF l⟩
theorem Ail {l:List α} {c:List Int}:c∈grpF l↔∃ a∈l,c=cls l a/\2<=c.length:=by
 unfold grpF;simp only [List.mem_filter,List.mem_map,decide_eq_true_eq];constructor
 ·rintro ⟨⟨a,h1,rfl⟩,h2⟩;exact ⟨a,Agw.1 h1,rfl,h2⟩
 ·rintro ⟨a,h1,rfl,h2⟩;exact ⟨⟨a,Agw.2 h1,rfl⟩,h2⟩
theorem Bdk {l:List α}:CP (l.length:Int) (grpF l):=by
 have hp:=(Ary (l:=l) l.length (Nat.le_refl _)).1;rw [List.take_length] at hp;have hp':(grpF l).Pairwise (fun c d=>c.headD 0<d.headD 0/\∀ i∈c,i ∉ d):=hp.filter _;refine ⟨fun c hc=>?_,fun c hc=>?_,fun c hc i hi=>?_,hp'.imp fun h=>h.1,hp'.imp fun h=>h.2⟩
 ·obtain ⟨a,_,_,h⟩:=Ail.1 hc;exact h
 ·obtain ⟨a,_,rfl,_⟩:=Ail.1 hc;exact Ap2
 ·obtain ⟨a,_,rfl,_⟩:=Ail.1 hc;obtain ⟨h1,h2⟩:=Abf (Ae8.1 hi);have:=(List.getElem?_eq_some_iff.1 h2).1;omega
theorem Al6 {l:List α} (h:l.length<=1000):Aby (part l)=true:=Aev.2 ⟨by simp [part],by simp only [part];omega,Bdk⟩
theorem Ba0 {l:List α} {i j:Int} (hi:0<=i/\i<l.length) (hj:0<=j/\j<l.length):Same (part l) i j↔lget l i=lget l j:=by
 constructor
 ·rintro (rfl | ⟨c,hc,h1,h2⟩)
  ·rfl
  ·obtain ⟨a,_,rfl,_⟩:=Ail.1 hc;rw [Ae8.1 h1,Ae8.1 h2]
 ·intro h;by_cases hij:i=j
  ·exact .inl hij
  ·obtain ⟨a,ha⟩:=Afv (l:=l) hi.1 hi.2;have h1:i∈cls l a:=Ae8.2 ha;have h2:j∈cls l a:=Ae8.2 (h ▸ ha);refine .inr ⟨cls l a,Ail.2 ⟨a,?_,rfl,?_⟩,h1,h2⟩
   ·exact List.mem_of_getElem? (Abf ha).2
   ·match hc:cls l a,h1,h2 with
    | [x],h1,h2=>simp at h1 h2;exact absurd (h1.trans h2.symm) hij
    | _::_::_,_,_=>simp
theorem Axq {l:List α} (h:l.length<=1000):Ah4 (part l):=by
 obtain ⟨h1,h2⟩:=Bh6 (Al6 h);exact ⟨by unfold Big;omega,fun c hc=>by have:=h2 c hc;unfold Big;omega⟩
end
theorem Bag {α β:Type} [DecidableEq α] [DecidableEq β] {l:List α} {m:List β} (hl:l.length=m.length) (h:∀ i j:Nat,i<l.length->j<l.length->(l[i]? = l[j]?↔m[i]? = m[j]?)):part l=part m:=by
 unfold part;rw [Axc (l:=l) (m:=m) ⟨hl,h⟩,hl]
section
variable {α:Type} [DecidableEq α]
end
end Go.Own
namespace Go.Own
open Go.Proofs D
set_option maxRecDepth 100000
set_option maxHeartbeats 4000000
namespace q71_
noncomputable def B:Code:=(Tryz.f35.body).getD .skip
def W:List Nat:=[0,1,2,4,5,6,7,8,9,11,12,13,21,22,23,24,28,29,30,31]
def res (r:api_Partition):D×List D:=(.agg [.lit (.int .i64 r.Rows),.sl (r.Classes.map (eSl (eI .i64)))],[])
def C (x0:api_Table) (x1:Int) (r:api_Partition):Prop:=Ret env 35 [.agg [.lit (.string x0.Name),.sl (x0.Attrs.map eS),.sl (x0.Rows.map Aa1)],.lit (.int .u32 x1)] (res r).1 (res r).2
def L1 (x0:api_Table) (r1:List Int) (z0:List ByteArray) (z1:Int) (φ:api_Partition->Prop):Prop:=Pt env 35 W B [1,1,1,0,1,0] [(0,.agg [.lit (.string x0.Name),.sl (x0.Attrs.map eS),.sl (x0.Rows.map Aa1)]),(2,.box [.lit (.string x0.Name),.sl (x0.Attrs.map eS),.sl (x0.Rows.map Aa1)]),(4,.box [.lit (.int .i64 0),.own []]),(5,.own (r1.map (eI .i64))),(6,.own (z0.map eS)),(21,.sl (x0.Rows.map Aa1)),(22,.lit (.int .i64 ((x0.Rows.length:Int)))),(23,.lit (.int .i64 z1))] (Lv env 35 Tryz.f35 2 res φ)
def L2 (x0:api_Table) (r1:List Int) (z0:List ByteArray) (z1:Int) (a3:api_Row) (z2:List UInt8) (z3 z4:Int) (φ:api_Partition->Prop):Prop:=Pt env 35 W B [1,1,1,0,1,0,0,1,1,0,0,1,1,0,1,0] [(0,.agg [.lit (.string x0.Name),.sl (x0.Attrs.map eS),.sl (x0.Rows.map Aa1)]),(2,.box [.lit (.string x0.Name),.sl (x0.Attrs.map eS),.sl (x0.Rows.map Aa1)]),(4,.box [.lit (.int .i64 0),.own []]),(5,.own (r1.map (eI .i64))),(6,.own (z0.map eS)),(7,.lit (.int .i64 z1)),(8,.box [.lit (.int .i64 a3.ID),.sl (a3.Values.map Aa2)]),(9,.bld 137 5 z2),(21,.sl (x0.Rows.map Aa1)),(22,.lit (.int .i64 ((x0.Rows.length:Int)))),(23,.lit (.int .i64 z3)),(28,.alias 5 []),(29,.lit (.int .i64 ((r1.length:Int)))),(30,.lit (.int .i64 z4))] (Lv env 35 Tryz.f35 2 res φ)
theorem L1_step (x0:api_Table) (r1:List Int) (z0:List ByteArray) (z1:Int) (φ:api_Partition->Prop) (h :
 (if z1<(x0.Rows.length:Int) then
 ∃ a3,lget x0.Rows z1=some a3 /\
 q71_.L2 x0 r1 z0 z1 a3 ([]) z1 0 φ
 else
 ∃ r5:List (List Int),q23_.C z0 r5 /\
 φ ((⟨(x0.Rows.length:Int),r5⟩:api_Partition)))):L1 x0 r1 z0 z1 φ:=
 mIn <|
 mAsk 2 h dT dF (fun h=>
 mIx 5 Aa1 h fun a3 h4 h=>
 mLen 10 (eI .i64) r1 <|
 mFin 2 h) fun h=>
 mXit 2 [(0,.agg [.lit (.string x0.Name),.sl (x0.Attrs.map eS),.sl (x0.Rows.map Aa1)]),(2,.box [.lit (.string x0.Name),.sl (x0.Attrs.map eS),.sl (x0.Rows.map Aa1)]),(4,.box [.lit (.int .i64 0),.own []]),(6,.sl (z0.map eS))] (Aw3 (F0:=[(0,.agg [.lit (.string x0.Name),.sl (x0.Attrs.map eS),.sl (x0.Rows.map Aa1)]),(2,.box [.lit (.string x0.Name),.sl (x0.Attrs.map eS),.sl (x0.Rows.map Aa1)]),(4,.box [.lit (.int .i64 0),.own []]),(6,.own (z0.map eS))]) (l:=z0) (e:=eS) (e':=eS) (s:=6) (by kernel_rfl) (by kernel_rfl) (by kernel_rfl) (fun _=>rfl) (by kernel_rfl) (by kernel_rfl)) <|
 mLen 3 Aa1 x0.Rows <|
 mLo 1 h (fun _ h=>h) (hf:=(fun _=>Awj)) fun r5 _ h=>
 mRet 3 h
theorem L2_step (x0:api_Table) (r1:List Int) (z0:List ByteArray) (z1:Int) (a3:api_Row) (z2:List UInt8) (z3 z4:Int) (φ:api_Partition->Prop) (h :
 (if z4<(r1.length:Int) then
 ∃ a6,lget r1 z4=some a6 /\
 ∃ a8,lget a3.Values a6=some a8 /\
 ∃ r10:ByteArray×Int,q75_.C a8 r10 /\
 z2.length+r10.1.size<=140737488355328 /\
 q71_.L2 x0 r1 z0 z1 a3 ((z2++r10.1.data.toList)) z3 ((IntKind.wrap .i64 (z4+1))) φ
 else
 ∃ a12,lget z0 z1=some a12 /\
 q71_.L1 x0 r1 ((lset z0 z1 (bstr z2))) ((IntKind.wrap .i64 (z3+1))) φ)):L2 x0 r1 z0 z1 a3 z2 z3 z4 φ:=
 mIn <|
 mAsk 2 h dT dF (fun h=>
 mIy 4 (eI .i64) h fun a6 h7 h=>
 mLd 0 (eI .i64) h7 <|
 mIx 6 Aa2 h fun a8 h9 h=>
 mCal 1 h (fun _ h=>h) (hf:=(fun _=>Aau (Aci (Aa8 rfl (Aa8 rfl Ab9))) rfl)) fun r10 _ h=>
 h.elim fun h11 h=>
 An5 8 (show Ret env 74 [.bld 137 5 z2,.lit (.string r10.1)] (.tup [.lit (.int .i64 ((Afc r10.1))),.lit .nilIface]) [.bld 137 5 ((z2++r10.1.data.toList))] from Ba4 (by kernel_rfl) h11) (hf:=(Agp)) <|
 mFin 5 h) fun h=>
 An5 6 (show Ret env 75 [.bld 137 5 z2] (.lit (.string ((bstr z2)))) [.box [.undef,.undef]] from Axw (by kernel_rfl)) <|
 mIy 0 eS h fun a12 h13 h=>
 mSto 0 eS ((bstr z2)) h13 <|
 mFin 5 h
theorem enter (x0:api_Table) (x1:Int) (φ:api_Partition->Prop) (h :
 ∃ r1:List Int,q46_.C x1 r1 /\
 (0<=(x0.Rows.length:Int)/\(x0.Rows.length:Int)*16<=281474976710656) /\
 q71_.L1 x0 r1 ((List.replicate x0.Rows.length (⟨#[]⟩:ByteArray))) 0 φ):∃ r,φ r/\C x0 x1 r:=
 mEnt (fd:=Tryz.f35) (body:=B) (V:=W) (res:=res) <|
 mCal 6 h (fun _ h=>h) (hf:=(fun _=>Aau (Ab8 (e:=(eI .i64)) (fun _=>rfl)) rfl)) fun r1 _ h=>
 mLen 5 Aa1 x0.Rows <|
 h.elim fun h2 h=>
 mVl 0 (Aor (t:=28) (x:=(.tmp 18)) (y:=(.tmp 18)) (q:=.i64) (i:=(x0.Rows.length:Int)) (et:=9) (z:=.lit (.string ((⟨#[]⟩:ByteArray)))) (e:=eS) (a:=(⟨#[]⟩:ByteArray)) (k:=16) (by kernel_rfl) (by kernel_rfl) (by kernel_rfl) (by kernel_rfl) (by kernel_rfl) (by kernel_rfl) (by kernel_rfl) (by kernel_rfl) (by kernel_rfl) (by kernel_rfl) h2.1 h2.2) <|
 mLen 5 Aa1 x0.Rows <|
 mFin 2 h
end q71_
namespace q44_
noncomputable def B:Code:=(Tryz.f33.body).getD .skip
def W:List Nat:=[0,1,2,4]
def res (r:Bool):D×List D:=(.lit (.bool r),[])
def C (x0:api_Table) (x1:Int) (r:Bool):Prop:=Ret env 33 [.agg [.lit (.string x0.Name),.sl (x0.Attrs.map eS),.sl (x0.Rows.map Aa1)],.lit (.int .u32 x1)] (res r).1 (res r).2
theorem enter (x0:api_Table) (x1:Int) (φ:Bool->Prop) (h :
 0<=(x0.Attrs.length:Int) /\
 φ (((shrw .u64 (IntKind.wrap .u64 x1) (x0.Attrs.length:Int)) == 0))):∃ r,φ r/\C x0 x1 r:=
 mEnt (fd:=Tryz.f33) (body:=B) (V:=W) (res:=res) <|
 mLen 9 eS x0.Attrs <|
 h.elim fun h1 h=>
 mBi 0 (Ai5 (t:=128) (q:=.u64) (q':=.i64) (i1:=(IntKind.wrap .u64 x1)) h1) <|
 mRet 3 h
end q44_
namespace q25_
noncomputable def B:Code:=(Tryz.f71.body).getD .skip
def W:List Nat:=[0,1,2,4]
def res (r:Bool):D×List D:=(.lit (.bool r),[])
def C (x0:Int) (k1_0 k2_0:List Int) (r:Bool):Prop:=Ret env 71 [.lit (.int .i64 x0),.ref [.sl (k1_0.map (eI .i64))],.ref [.sl (k2_0.map (eI .i64))]] (res r).1 (res r).2
theorem enter (x0:Int) (k1_0 k2_0:List Int) (φ:Bool->Prop) (h :
 ∃ a1,lget k1_0 x0=some a1 /\
 ∃ a3,lget k2_0 0=some a3 /\
 ∃ a5,lget k1_0 a3=some a5 /\
 φ ((a1 != a5))):∃ r,φ r/\C x0 k1_0 k2_0 r:=
 mEnt (fd:=Tryz.f71) (body:=B) (V:=W) (res:=res) <|
 mIx 6 (eI .i64) h fun a1 h2 h=>
 mIx 3 (eI .i64) h fun a3 h4 h=>
 mIx 1 (eI .i64) h fun a5 h6 h=>
 mRet 4 h
end q25_
namespace q6_
noncomputable def B:Code:=(Tryz.f96.body).getD .skip
def W:List Nat:=[0,1,4,5,7,8,9,16]
def res (r:Int):D×List D:=(.lit (.int .i64 r),[])
def C (x0 k1_0 k1_1:List Int) (r:Int):Prop:=Ret env 96 [.sl (x0.map (eI .i64)),.fn 71 [.ref [.sl (k1_0.map (eI .i64))],.ref [.sl (k1_1.map (eI .i64))]]] (res r).1 (res r).2
def L1 (x0 k1_0 k1_1:List Int) (z0:Int) (φ:Int->Prop):Prop:=Pt env 96 W B [1,0,1,0] [(0,.sl (x0.map (eI .i64))),(1,.fn 71 [.ref [.sl (k1_0.map (eI .i64))],.ref [.sl (k1_1.map (eI .i64))]]),(7,.lit (.int .i64 ((x0.length:Int)))),(8,.lit (.int .i64 z0))] (Lv env 96 Tryz.f96 2 res φ)
theorem L1_step (x0 k1_0 k1_1:List Int) (z0:Int) (φ:Int->Prop) (h :
 (if z0<(x0.length:Int) then
 ∃ a1,lget x0 z0=some a1 /\
 ∃ r3:Bool,q25_.C a1 k1_0 k1_1 r3 /\
 (if r3=true then
 φ z0
 else
 q6_.L1 x0 k1_0 k1_1 ((IntKind.wrap .i64 (z0+1))) φ)
 else
 φ ((-1)))):L1 x0 k1_0 k1_1 z0 φ:=
 mIn <|
 mAsk 2 h dT dF (fun h=>
 mIx 11 (eI .i64) h fun a1 h2 h=>
 Abr 1 h (fun _ h=>h) (fun _ h=>
 mRet 6 h) fun _ h=>
 mFin 7 h) fun h=>
 mRet 6 h
theorem enter (x0 k1_0 k1_1:List Int) (φ:Int->Prop) (h :
 q6_.L1 x0 k1_0 k1_1 0 φ):∃ r,φ r/\C x0 k1_0 k1_1 r:=
 mEnt (fd:=Tryz.f96) (body:=B) (V:=W) (res:=res) <|
 mLen 5 (eI .i64) x0 <|
 mFin 2 h
end q6_
namespace q4_
noncomputable def B:Code:=(Tryz.f70.body).getD .skip
def W:List Nat:=[0,1,4]
def res (r:Bool):D×List D:=(.lit (.bool r),[])
def C (x0 k1_0 k1_1:List Int) (r:Bool):Prop:=Ret env 70 [.sl (x0.map (eI .i64)),.fn 71 [.ref [.sl (k1_0.map (eI .i64))],.ref [.sl (k1_1.map (eI .i64))]]] (res r).1 (res r).2
theorem enter (x0 k1_0 k1_1:List Int) (φ:Bool->Prop) (h :
 ∃ r1:Int,q6_.C x0 k1_0 k1_1 r1 /\
 φ ((decide (0<=r1)))):∃ r,φ r/\C x0 k1_0 k1_1 r:=
 mEnt (fd:=Tryz.f70) (body:=B) (V:=W) (res:=res) <|
 mCal 6 h (fun _ h=>h) fun r1 _ h=>
 mRet 3 h
end q4_
namespace q31_
noncomputable def B:Code:=(Tryz.f69.body).getD .skip
def W:List Nat:=[0,1,2,3]
def res (r:Bool):D×List D:=(.lit (.bool r),[])
def C (x0 k1_0:List Int) (r:Bool):Prop:=Ret env 69 [.sl (x0.map (eI .i64)),.ref [.sl (k1_0.map (eI .i64))]] (res r).1 (res r).2
theorem enter (x0 k1_0:List Int) (φ:Bool->Prop) (h :
 ∃ r1:Bool,q4_.C x0 k1_0 x0 r1 /\
 φ r1):∃ r,φ r/\C x0 k1_0 r:=
 mEnt (fd:=Tryz.f69) (body:=B) (V:=W) (res:=res) <|
 mCal 7 h (fun _ h=>h) fun r1 _ h=>
 mRet 2 h
end q31_
namespace q7_
noncomputable def B:Code:=(Tryz.f95.body).getD .skip
def W:List Nat:=[0,1,4,5,7,8,9,16]
def res (r:Int):D×List D:=(.lit (.int .i64 r),[])
def C (x0:List (List Int)) (k1_0:List Int) (r:Int):Prop:=Ret env 95 [.sl (x0.map (eSl (eI .i64))),.fn 69 [.ref [.sl (k1_0.map (eI .i64))]]] (res r).1 (res r).2
def L1 (x0:List (List Int)) (k1_0:List Int) (z0:Int) (φ:Int->Prop):Prop:=Pt env 95 W B [1,0,1,0] [(0,.sl (x0.map (eSl (eI .i64)))),(1,.fn 69 [.ref [.sl (k1_0.map (eI .i64))]]),(7,.lit (.int .i64 ((x0.length:Int)))),(8,.lit (.int .i64 z0))] (Lv env 95 Tryz.f95 2 res φ)
theorem L1_step (x0:List (List Int)) (k1_0:List Int) (z0:Int) (φ:Int->Prop) (h :
 (if z0<(x0.length:Int) then
 ∃ a1,lget x0 z0=some a1 /\
 ∃ r3:Bool,q31_.C a1 k1_0 r3 /\
 (if r3=true then
 φ z0
 else
 q7_.L1 x0 k1_0 ((IntKind.wrap .i64 (z0+1))) φ)
 else
 φ ((-1)))):L1 x0 k1_0 z0 φ:=
 mIn <|
 mAsk 2 h dT dF (fun h=>
 mIx 11 (eSl (eI .i64)) h fun a1 h2 h=>
 Abr 1 h (fun _ h=>h) (fun _ h=>
 mRet 6 h) fun _ h=>
 mFin 7 h) fun h=>
 mRet 6 h
theorem enter (x0:List (List Int)) (k1_0:List Int) (φ:Int->Prop) (h :
 q7_.L1 x0 k1_0 0 φ):∃ r,φ r/\C x0 k1_0 r:=
 mEnt (fd:=Tryz.f95) (body:=B) (V:=W) (res:=res) <|
 mLen 5 (eSl (eI .i64)) x0 <|
 mFin 2 h
end q7_
namespace q5_
noncomputable def B:Code:=(Tryz.f68.body).getD .skip
def W:List Nat:=[0,1,4]
def res (r:Bool):D×List D:=(.lit (.bool r),[])
def C (x0:List (List Int)) (k1_0:List Int) (r:Bool):Prop:=Ret env 68 [.sl (x0.map (eSl (eI .i64))),.fn 69 [.ref [.sl (k1_0.map (eI .i64))]]] (res r).1 (res r).2
theorem enter (x0:List (List Int)) (k1_0:List Int) (φ:Bool->Prop) (h :
 ∃ r1:Int,q7_.C x0 k1_0 r1 /\
 φ ((decide (0<=r1)))):∃ r,φ r/\C x0 k1_0 r:=
 mEnt (fd:=Tryz.f68) (body:=B) (V:=W) (res:=res) <|
 mCal 6 h (fun _ h=>h) fun r1 _ h=>
 mRet 3 h
end q5_
namespace q39_
noncomputable def B:Code:=(Tryz.f34.body).getD .skip
def W:List Nat:=[0,1,2,3,4,5,9]
def res (r:Bool):D×List D:=(.lit (.bool r),[])
def C (x0 x1:api_Partition) (r:Bool):Prop:=Ret env 34 [.agg [.lit (.int .i64 x0.Rows),.sl (x0.Classes.map (eSl (eI .i64)))],.agg [.lit (.int .i64 x1.Rows),.sl (x1.Classes.map (eSl (eI .i64)))]] (res r).1 (res r).2
theorem enter (x0 x1:api_Partition) (φ:Bool->Prop) (h :
 ∃ r1:Int,q57_.C x0 x1 r1 /\
 (if r1=0 then
 ∃ r2:List Int,q43_.C x1 r2 /\
 ∃ r3:Bool,q5_.C x0.Classes r2 r3 /\
 φ ((not r3))
 else
 φ false)):∃ r,φ r/\C x0 x1 r:=
 mEnt (fd:=Tryz.f34) (body:=B) (V:=W) (res:=res) <|
 mCal 8 h (fun _ h=>h) fun r1 _ h=>
 Acq 0 h Acf Ace (fun h=>
 mRet 5 h) fun h=>
 mCal 5 h (fun _ h=>h) (hf:=(fun _=>Aau (Ab8 (e:=(eI .i64)) (fun _=>rfl)) rfl)) fun r2 _ h=>
 mCal 7 h (fun _ h=>h) (hr:=by exact (pr_k (Agy (Bdq (Ay3 (Bbx (s:=5) (ps:=[]) (by kernel_rfl) (Ach (Ac0 (e:=(eI .i64)) (e':=(eI .i64)) (fun _=>rfl) r2) Ai6)) Ba8)) Akd))) fun r3 _ h=>
 mRet 3 h
end q39_
end Go.Own
namespace Go.Own
theorem Baw {a b:api_Partition} (h:Aj6 a b=0):Aby a=true/\Aby b=true/\a.Rows=b.Rows:=by
 unfold Aj6 at h
 split at h
 ·split at h
  ·split at h
   ·exact ⟨by assumption,by assumption,by assumption⟩
   ·omega
  ·omega
 ·omega
def Bad1 (l c:List Int) (i:Int):Prop:=lab1 l i≠lab1 l (c.headD 0)
structure In1 (l c:List Int):Prop where
 ne:c≠[]
 has:∀ i∈c,∃ a,lget l i=some a
theorem q25_.spec {l c:List Int} (h:In1 l c) {i:Int} (hi:i∈c):∃ b,q25_.C i l c b/\(b=true↔Bad1 l c i):=by
 obtain ⟨a,ha⟩:=h.has i hi;obtain ⟨h0,hh0⟩:∃ h0,c[0]? = some h0:=by
  match c,h.ne with
  | x::t,_=>exact ⟨x,rfl⟩
 have hd:c.headD 0=h0:=by
  match c,hh0 with
  | x::t,e=>simpa using e
 obtain ⟨b,hb⟩:=h.has h0 (List.mem_of_getElem? hh0);obtain ⟨r,h1,h2⟩:=q25_.enter i l c (fun r=>(r=true↔Bad1 l c i)) (by
  refine ⟨a,ha,h0,by have:=Abx (l:=c) (k:=0);rw [hh0] at this;exact this,b,hb,?_⟩;unfold Bad1;rw [hd,Awh ha,Awh hb]
  simp)
 exact ⟨r,h2,h1⟩
namespace q6_
theorem loop {l c:List Int} (h:In1 l c) (hn:c.length<Big):∀ (r:List Int) (k:Nat),c.drop k=r->(∀ i∈c.take k,¬ Bad1 l c i)->L1 c l c k (fun r=>(0<=r↔∃ i∈c,Bad1 l c i))
 | [],k,hd,hb=>by
  apply L1_step;have hk:=Ab3 hd;rw [if_neg (by omega)];rw [List.take_of_length_le hk] at hb;constructor
  ·intro h;omega
  ·rintro ⟨i,h1,h2⟩;exact absurd h2 (hb i h1)
 | i::r,k,hd,hb=>by
  apply L1_step;have hk:=Ab4 hd;have hi:=List.mem_of_getElem? (Aap hd);rw [if_pos (by omega)];obtain ⟨b,h1,h2⟩:=q25_.spec h hi;refine ⟨i,Acs hd,b,h1,?_⟩
  split
  ·rename_i hbt;exact ⟨fun _=>⟨i,hi,h2.1 hbt⟩,fun _=>by omega⟩
  ·rename_i hbf;rw [Aa4 (by unfold Big at hn;omega)];refine loop h hn r (k+1) (Aah hd) fun j hj=>?_;rw [Ae4 (Aap hd)] at hj;rcases List.mem_append.1 hj with hj | hj
   ·exact hb j hj
   ·simp at hj;subst hj;exact fun hh=>hbf (h2.2 hh)
theorem spec {l c:List Int} (h:In1 l c) (hn:c.length<Big):∃ r,C c l c r/\(0<=r↔∃ i∈c,Bad1 l c i):=by
 obtain ⟨r,h1,h2⟩:=enter c l c (fun r=>(0<=r↔∃ i∈c,Bad1 l c i)) (loop h hn c 0 rfl (by simp));exact ⟨r,h2,h1⟩
end q6_
theorem q4_.spec {l c:List Int} (h:In1 l c) (hn:c.length<Big):∃ b,q4_.C c l c b/\(b=true↔∃ i∈c,Bad1 l c i):=by
 obtain ⟨r,h1,h2⟩:=q4_.enter c l c (fun b=>(b=true↔∃ i∈c,Bad1 l c i)) (by
  obtain ⟨q,q1,q2⟩:=q6_.spec h hn;refine ⟨q,q1,?_⟩
  rw [← q2];simp)
 exact ⟨r,h2,h1⟩
theorem q31_.spec {l c:List Int} (h:In1 l c) (hn:c.length<Big):∃ b,q31_.C c l b/\(b=true↔∃ i∈c,Bad1 l c i):=by
 obtain ⟨r,h1,h2⟩:=q31_.enter c l (fun b=>(b=true↔∃ i∈c,Bad1 l c i)) (q4_.spec h hn);exact ⟨r,h2,h1⟩
def Bad2 (l:List Int) (c:List Int):Prop:=∃ i∈c,Bad1 l c i
namespace q7_
theorem loop {l:List Int} {cs:List (List Int)} (h:∀ c∈cs,In1 l c) (hn:cs.length<Big) (hn2:∀ c∈cs,c.length<Big):∀ (r:List (List Int)) (k:Nat),cs.drop k=r->(∀ c∈cs.take k,¬ Bad2 l c)->L1 cs l k (fun r=>(0<=r↔∃ c∈cs,Bad2 l c))
 | [],k,hd,hb=>by
  apply L1_step;have hk:=Ab3 hd;rw [if_neg (by omega)];rw [List.take_of_length_le hk] at hb;constructor
  ·intro h;omega
  ·rintro ⟨i,h1,h2⟩;exact absurd h2 (hb i h1)
 | c::r,k,hd,hb=>by
  apply L1_step;have hk:=Ab4 hd;have hc:=List.mem_of_getElem? (Aap hd);rw [if_pos (by omega)];obtain ⟨b,h1,h2⟩:=q31_.spec (h c hc) (hn2 c hc);refine ⟨c,Acs hd,b,h1,?_⟩
  split
  ·rename_i hbt;exact ⟨fun _=>⟨c,hc,h2.1 hbt⟩,fun _=>by omega⟩
  ·rename_i hbf;rw [Aa4 (by unfold Big at hn;omega)];refine loop h hn hn2 r (k+1) (Aah hd) fun j hj=>?_;rw [Ae4 (Aap hd)] at hj;rcases List.mem_append.1 hj with hj | hj
   ·exact hb j hj
   ·simp at hj;subst hj;exact fun hh=>hbf (h2.2 hh)
theorem spec {l:List Int} {cs:List (List Int)} (h:∀ c∈cs,In1 l c) (hn:cs.length<Big) (hn2:∀ c∈cs,c.length<Big):∃ r,C cs l r/\(0<=r↔∃ c∈cs,Bad2 l c):=by
 obtain ⟨r,h1,h2⟩:=enter cs l (fun r=>(0<=r↔∃ c∈cs,Bad2 l c)) (loop h hn hn2 cs 0 rfl (by simp));exact ⟨r,h2,h1⟩
end q7_
theorem q5_.spec {l:List Int} {cs:List (List Int)} (h:∀ c∈cs,In1 l c) (hn:cs.length<Big) (hn2:∀ c∈cs,c.length<Big):∃ b,q5_.C cs l b/\(b=true↔∃ c∈cs,Bad2 l c):=by
 obtain ⟨r,h1,h2⟩:=q5_.enter cs l (fun b=>(b=true↔∃ c∈cs,Bad2 l c)) (by
  obtain ⟨q,q1,q2⟩:=q7_.spec h hn hn2;refine ⟨q,q1,?_⟩
  rw [← q2];simp)
 exact ⟨r,h2,h1⟩
def RefP (a b:api_Partition):Prop:=Aj6 a b=0/\∀ i j,0<=i/\i<a.Rows->0<=j/\j<a.Rows->Same a i j->Same b i j
theorem q39_.spec {a b:api_Partition} (ha:Ah4 a) (hb:Ah4 b):∃ r,q39_.C a b r/\(r=true↔RefP a b):=by
 obtain ⟨r,h1,h2⟩:=q39_.enter a b (fun r=>(r=true↔RefP a b)) (by
  refine ⟨_,q57_.spec ha hb,?_⟩
  split
  ·rename_i h0;obtain ⟨va,vb,hr⟩:=Baw h0;obtain ⟨v1,v2,v3⟩:=Aev.1 va;have hin:∀ c∈a.Classes,In1 (labN b) c:=fun c hc=>⟨fun hn=>by have:=v3.two c hc;rw [hn] at this;simp at this,fun i hi=>Afv (v3.inn c hc i hi).1 (by have:=(v3.inn c hc i hi).2;rw [Aog];omega)⟩
   obtain ⟨q,q1,q2⟩:=q5_.spec hin ha.1 ha.2;refine ⟨_,q43_.spec hb vb,q,q1,?_⟩;have key:(∃ c∈a.Classes,Bad2 (labN b) c)↔¬ RefP a b:=by
    have sm:∀ {i j:Int},0<=i/\i<a.Rows->0<=j/\j<a.Rows->(lab1 (labN b) i=lab1 (labN b) j↔Same b i j):=fun hi hj=>by
     rw [Bbf (by rw [Aog];omega) (by rw [Aog];omega),Azp vb (by omega) (by omega)]
    constructor
    ·rintro ⟨c,hc,i,hi,hbad⟩ hR;have m1:=v3.inn c hc i hi;have hm:=Azf (v3.two c hc);have m2:=v3.inn c hc _ hm;exact hbad ((sm m1 m2).2 (hR.2 i _ m1 m2 (.inr ⟨c,hc,hi,hm⟩)))
    ·intro hR;apply Classical.byContradiction;intro hno;apply hR;refine ⟨h0,fun i j hi hj hs=>?_⟩;rcases hs with rfl | ⟨c,hc,h1,h2⟩
     ·exact .inl rfl
     ·have e:∀ k∈c,lab1 (labN b) k=lab1 (labN b) (c.headD 0):=fun k hk=>Classical.byContradiction fun hne=>hno ⟨c,hc,k,hk,hne⟩;exact (sm hi hj).1 ((e i h1).trans (e j h2).symm)
   cases q with
   | true=>simp only [Bool.not_true,Bool.false_eq_true,false_iff];exact key.1 (q2.1 rfl)
   | false=>
    simp only [Bool.not_false,true_iff];exact Classical.byContradiction fun hn=>by have:=q2.2 (key.2 hn);cases this
  ·rename_i h0;simp only [Bool.false_eq_true,false_iff]
   exact fun hR=>h0 hR.1)
 exact ⟨r,h2,h1⟩
structure Lbl (x:api_Partition) (r:List Int):Prop where
 has:∀ c∈x.Classes,∀ i∈c,∃ a,lget r i=some a
namespace drossref08_Removal
end drossref08_Removal
end Go.Own
namespace Go.Own
open Go.Proofs D
set_option maxRecDepth 100000
set_option maxHeartbeats 4000000
namespace q54_
noncomputable def B:Code:=(Tryz.f11.body).getD .skip
def W:List Nat:=[0,1,2,3,4,5,6,10,19]
def res (r:Bool×Int):D×List D:=(.tup [.lit (.bool r.1),.lit (.int .i64 r.2)],[])
def C (x0:api_Table) (x1:api_FD) (r:Bool×Int):Prop:=Ret env 11 [.agg [.lit (.string x0.Name),.sl (x0.Attrs.map eS),.sl (x0.Rows.map Aa1)],.agg [.lit (.int .u32 x1.Lhs),.lit (.int .u32 x1.Rhs)]] (res r).1 (res r).2
theorem enter (x0:api_Table) (x1:api_FD) (φ:Bool×Int->Prop) (h :
 ∃ r1:Int,q73_.C x0 r1 /\
 (if r1=0 then
 ∃ r2:Bool,q44_.C x0 ((bOr .u32 x1.Lhs x1.Rhs)) r2 /\
 (if r2=true then
 ∃ r3:api_Partition,q71_.C x0 x1.Lhs r3 /\
 ∃ r4:api_Partition,q71_.C x0 x1.Rhs r4 /\
 ∃ r5:Bool,q39_.C r3 r4 r5 /\
 φ ((r5,0))
 else
 φ ((false,6)))
 else
 φ ((false,r1)))):∃ r,φ r/\C x0 x1 r:=
 mEnt (fd:=Tryz.f11) (body:=B) (V:=W) (res:=res) <|
 mCal 8 h (fun _ h=>h) fun r1 _ h=>
 Acq 4 h Acf Ace (fun h=>
 mRet 7 h) fun h=>
 Abr 10 h (fun _ h=>h) (fun _ h=>
 mLo 8 h (fun _ h=>h) (hf:=(fun _=>Awj)) fun r3 _ h=>
 mCal 3 h (fun _ h=>h) (hf:=(fun _=>Agp)) fun r4 _ h=>
 mCal 0 h (fun _ h=>h) fun r5 _ h=>
 mRet 3 h) fun _ h=>
 mRet 7 h
end q54_
namespace q66_
noncomputable def B:Code:=(Tryz.f10.body).getD .skip
def W:List Nat:=[0,2,3,4,5,9,23]
def res (r:Int×Int):D×List D:=(.tup [.lit (.int .u32 r.1),.lit (.int .i64 r.2)],[])
def C (x0:List Int) (r:Int×Int):Prop:=Ret env 10 [.sl (x0.map (eI .i64))] (res r).1 (res r).2
def L1 (x0:List Int) (z0 z1:Int) (φ:Int×Int->Prop):Prop:=Pt env 10 W B [1,1,0,1,0] [(0,.sl (x0.map (eI .i64))),(4,.lit (.int .u32 z0)),(5,.lit (.int .i64 z1))] (Lv env 10 Tryz.f10 1 res φ)
theorem L1_step (x0:List Int) (z0 z1:Int) (φ:Int×Int->Prop) (h :
 (if z1<(x0.length:Int) then
 ∃ a1,lget x0 z1=some a1 /\
 (if a1<0 then
 φ ((0,7))
 else
 (if 16<=a1 then
 φ ((0,7))
 else
 0<=a1 /\
 q66_.L1 x0 ((bOr .u32 z0 (shlw .u32 1 a1))) ((IntKind.wrap .i64 (z1+1))) φ))
 else
 φ ((z0,0)))):L1 x0 z0 z1 φ:=
 mIn <|
 mLen 4 (eI .i64) x0 <|
 mAsk 0 h dT dF (fun h=>
 mIx 6 (eI .i64) h fun a1 h2 h=>
 mAsk 1 h dT dF (fun h=>
 mRet 13 h) fun h=>
 mIxf 3 (eI .i64) h2 <|
 mAsk 1 h dT dF (fun h=>
 mRet 7 h) fun h=>
 mIxf 8 (eI .i64) h2 <|
 h.elim fun h3 h=>
 mBi 1 (Aw7 (t:=46) (q:=.u32) (q':=.i64) (i1:=1) h3) <|
 mFin 8 h) fun h=>
 mRet 8 h
theorem enter (x0:List Int) (φ:Int×Int->Prop) (h :
 q66_.L1 x0 0 0 φ):∃ r,φ r/\C x0 r:=
 mEnt (fd:=Tryz.f10) (body:=B) (V:=W) (res:=res) <|
 mFin 10 h
end q66_
namespace q45_
def res (r:Bool):D×List D:=(.lit (.bool r),[])
def C  (r:Bool):Prop:=Ret env 5 [] (res r).1 (res r).2
end q45_
end Go.Own
namespace Go.Own
set_option maxRecDepth 1000000
theorem q45_.run:Abv env 400 5 []=some (.lit (.bool true),[]):=by kernel_rfl
theorem q45_.spec:q45_.C true:=Ret.of q45_.run
end Go.Own
namespace Go.Own
open Go.Proofs D
set_option maxRecDepth 100000
set_option maxHeartbeats 4000000
namespace drosstop_TopOrders
noncomputable def B:Code:=(Tryz.f3.body).getD .skip
def W:List Nat:=[0,1,2,3,4,5,6,7,8,9,10,11,12,13,15,16,17,18,19,20,21,22,23,53,74,75,76,77,78,88,96]
def res (r:Bool):D×List D:=(.lit (.bool r),[])
def C (x0:drossref03_Recipe) (x1:drossref17_Lists) (r:Bool):Prop:=Ret env 3 [.agg [.lit (.int .u8 x0.Attrs),.lit (.int .u8 x0.Gap),.sl (x0.Rows.map (eSl (eI .u8)))],.agg [.sl (x1.X.map (eI .u8)),.sl (x1.Y.map (eI .u8))]] (res r).1 (res r).2
def L1  (φ:Bool->Prop):Prop:=Pt env 3 W B [1,1,1,0,1,0,0] [] (Lv env 3 Tryz.f3 2 res φ)
def L2 (r1:api_Table×Bool) (r3:api_OD) (r4:Bool×Int) (r5:List api_Canonical×Int) (z0:Bool) (z1:Int) (φ:Bool->Prop):Prop:=Pt env 3 W B [1,1,1,1,1,1,1,1,1,0,1,0] [(5,.box [.lit (.string r1.1.Name),.sl (r1.1.Attrs.map eS),.sl (r1.1.Rows.map Aa1)]),(8,.box [.sl (r3.Lhs.map (eI .i64)),.sl (r3.Rhs.map (eI .i64))]),(9,.lit (.bool r4.1)),(11,.sl (r5.1.map Aa3)),(13,.lit (.bool z0)),(75,.sl (r5.1.map Aa3)),(76,.lit (.int .i64 ((r5.1.length:Int)))),(77,.lit (.int .i64 z1))] (Lv env 3 Tryz.f3 2 res φ)
def L3 (r1:api_Table×Bool) (r3:api_OD) (r4:Bool×Int) (r5:List api_Canonical×Int) (z0:Bool) (z1:Int) (φ:Bool->Prop):Prop:=Pt env 3 W B [1,1,1,1,1,1,1,1,1,0,1,0,0,1,1,1] [(5,.box [.lit (.string r1.1.Name),.sl (r1.1.Attrs.map eS),.sl (r1.1.Rows.map Aa1)]),(8,.box [.sl (r3.Lhs.map (eI .i64)),.sl (r3.Rhs.map (eI .i64))]),(9,.lit (.bool r4.1)),(11,.sl (r5.1.map Aa3)),(13,.lit (.bool z0)),(75,.sl (r5.1.map Aa3)),(76,.lit (.int .i64 ((r5.1.length:Int)))),(77,.lit (.int .i64 z1))] (Lv env 3 Tryz.f3 2 res φ)
theorem L1_step  (φ:Bool->Prop) (h :
 ∃ r6:Bool,q45_.C  r6 /\
 φ r6):L1  φ:=
 mIn <|
 mCal 1 h (fun _ h=>h) fun r6 _ h=>
 mRet 2 h
theorem L2_step (r1:api_Table×Bool) (r3:api_OD) (r4:Bool×Int) (r5:List api_Canonical×Int) (z0:Bool) (z1:Int) (φ:Bool->Prop) (h :
 (if z1<(r5.1.length:Int) then
 ∃ a7,lget r5.1 z1=some a7 /\
 ∃ r9:Bool×Int,q35_.C r1.1 a7 r9 /\
 (if r9.2=0 then
 (if z0=true then
 drosstop_TopOrders.L3 r1 r3 r4 r5 r9.1 z1 φ
 else
 drosstop_TopOrders.L3 r1 r3 r4 r5 false z1 φ)
 else
 φ false)
 else
 (if z0=r4.1 then
 ∃ r10:Int×Int,q66_.C r3.Lhs r10 /\
 ∃ r11:Int×Int,q66_.C r3.Rhs r11 /\
 ∃ r12:Bool×Int,q54_.C r1.1 ((⟨r10.1,r11.1⟩:api_FD)) r12 /\
 (if r12.2=0 then
 (if r4.1=true then
 φ r12.1
 else
 φ true)
 else
 φ false)
 else
 φ false))):L2 r1 r3 r4 r5 z0 z1 φ:=
 mIn <|
 mAsk 2 h dT dF (fun h=>
 mIx 4 Aa3 h fun a7 h8 h=>
 mCal 7 h (fun _ h=>h) (hf:=(fun _=>Aau (Aci (Aa8 rfl (Aa8 rfl Ab9))) rfl)) fun r9 _ h=>
 Acq 8 h Acf Ace (fun h=>
 mRet 5 h) fun h=>
 mAsk 4 h id fls (fun h=>
 mFin 5 h) fun h=>
 mFin 5 h) fun h=>
 Acq 6 h Be0 Bdz (fun h=>
 mRet 5 h) fun h=>
 mCal 6 h (fun _ h=>h) (hf:=(fun _=>Aau (Aci (Aa8 rfl (Aa8 rfl Ab9))) rfl)) fun r10 _ h=>
 mCal 9 h (fun _ h=>h) (hf:=(fun _=>Aau (Aci (Aa8 rfl (Aa8 rfl Ab9))) rfl)) fun r11 _ h=>
 mCal 11 h (fun _ h=>h) (hf:=(fun _=>Aau (Aci (Aa8 rfl (Aa8 rfl Ab9))) rfl)) fun r12 _ h=>
 mAsk 8 h Aay Aax (fun h=>
 mAsk 1 h id fls (fun h=>
 mRet 7 h) fun h=>
 mRet 7 h) fun h=>
 mRet 9 h
theorem L3_step (r1:api_Table×Bool) (r3:api_OD) (r4:Bool×Int) (r5:List api_Canonical×Int) (z0:Bool) (z1:Int) (φ:Bool->Prop) (h :
 drosstop_TopOrders.L2 r1 r3 r4 r5 z0 ((IntKind.wrap .i64 (z1+1))) φ):L3 r1 r3 r4 r5 z0 z1 φ:=
 mIn <|
 mFin 4 h
theorem enter (x0:drossref03_Recipe) (x1:drossref17_Lists) (φ:Bool->Prop) (h :
 ∃ r1:api_Table×Bool,q40_.C x0 8 r1 /\
 ∃ r2:Bool,q45_.C  r2 /\
 (if r2=true then
 (if r1.2=true then
 (if (r1.1.Attrs.length:Int)=0 then
 drosstop_TopOrders.L1  φ
 else
 (if 8<(x1.X.length:Int) then
 drosstop_TopOrders.L1  φ
 else
 (if 8<(x1.Y.length:Int) then
 drosstop_TopOrders.L1  φ
 else
 ∃ r3:api_OD,q64_.C ((r1.1.Attrs.length:Int)) x1 r3 /\
 ∃ r4:Bool×Int,q56_.C r1.1 r3 r4 /\
 ∃ r5:List api_Canonical×Int,q34_.C r3 r5 /\
 (if r4.2=0 then
 (if r5.2=0 then
 drosstop_TopOrders.L2 r1 r3 r4 r5 true 0 φ
 else
 φ false)
 else
 φ false))))
 else
 drosstop_TopOrders.L1  φ)
 else
 drosstop_TopOrders.L1  φ)):∃ r,φ r/\C x0 x1 r:=
 mEnt (fd:=Tryz.f3) (body:=B) (V:=W) (res:=res) <|
 Aq0 7 h (fun _ h=>h) (fun (r1:api_Table×Bool)=>Atp rfl (Ach (Apf (Ach rfl (Ach (Ac0 (e:=eS) (e':=eS) (fun _=>rfl) r1.1.Attrs) (Ach (Ac0 (e:=Ac6) (e':=Aa1) (fun x=>(Ach rfl (Ach (Ac0 (e:=Aa2) (e':=Aa2) (fun _=>rfl) x.Values) Ai6))) r1.1.Rows) Ai6)))) (Ach rfl Ai6))) (hf:=(fun _=>Aau (Aci (Aa8 (Al0 (Aa8 rfl (Aa8 (Ab8 (e:=eS) (fun _=>rfl)) (Aa8 (Ab8 (e:=Ac6) (fun _=>(Aa8 rfl (Aa8 (Ab8 (e:=Aa2) (fun _=>rfl)) Ab9)))) Ab9)))) (Aa8 rfl Ab9))) rfl)) fun r1 _ h=>
 mLen 10 eS r1.1.Attrs <|
 Abr 3 h (fun _ h=>h) (fun _ h=>
 mAsk 2 h id fls (fun h=>
 mAsk 4 h Aay Aax (fun h=>
 mFin 15 h) fun h=>
 mLen 4 (eI .u8) x1.X <|
 mAsk 0 h dT dF (fun h=>
 mFin 9 h) fun h=>
 mLen 4 (eI .u8) x1.Y <|
 mAsk 0 h dT dF (fun h=>
 mFin 3 h) fun h=>
 Aq0 7 h (fun _ h=>h) (fun (r3:api_OD)=>Bb2 rfl (Ach (Ac0 (e:=(eI .i64)) (e':=(eI .i64)) (fun _=>rfl) r3.Lhs) (Ach (Ac0 (e:=(eI .i64)) (e':=(eI .i64)) (fun _=>rfl) r3.Rhs) Ai6))) (hf:=(fun _=>Aau (Al0 (Aa8 (Ab8 (e:=(eI .i64)) (fun _=>rfl)) (Aa8 (Ab8 (e:=(eI .i64)) (fun _=>rfl)) Ab9))) rfl)) fun r3 _ h=>
 mCal 6 h (fun _ h=>h) (hf:=(fun _=>Aau (Aci (Aa8 rfl (Aa8 rfl Ab9))) rfl)) fun r4 _ h=>
 Aq0 8 h (fun _ h=>h) (fun (r5:List api_Canonical×Int)=>Atp rfl (Ach (Ac0 (e:=Aa3) (e':=Aa3) (fun _=>rfl) r5.1) (Ach rfl Ai6))) (hf:=(fun _=>Aau (Aci (Aa8 (Ab8 (e:=Aa3) (fun _=>rfl)) (Aa8 rfl Ab9))) rfl)) fun r5 _ h=>
 Acq 8 h Acf Ace (fun h=>
 mRet 9 h) fun h=>
 Acq 2 h Acf Ace (fun h=>
 mRet 6 h) fun h=>
 mLen 9 Aa3 r5.1 <|
 mFin 2 h) fun h=>
 mFin 20 h) fun _ h=>
 mFin 23 h
end drosstop_TopOrders
end Go.Own
