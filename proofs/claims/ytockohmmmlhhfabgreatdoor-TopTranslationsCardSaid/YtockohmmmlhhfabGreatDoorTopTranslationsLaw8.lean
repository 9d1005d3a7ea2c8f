/- What the functions answer. No conditions. -/
import Derived.Test.YtockohmmmlhhfabGreatDoorBase2
import Derived.Test.YtockohmmmlhhfabGreatDoorOwn22
set_option linter.all false
namespace Go.Own
open Go.Proofs D
set_option maxRecDepth 100000
set_option maxHeartbeats 4000000
namespace q62_
noncomputable def B:Code:=(Tryz.f129.body).getD .skip
def W:List Nat:=[0,2]
def res (r:Bool):D×List D:=(.lit (.bool r),[])
def C (x0:Int) (r:Bool):Prop:=Ret env 129 [.lit (.int .i64 x0)] (res r).1 (res r).2
theorem enter (x0:Int) (φ:Bool->Prop) (h :
 φ ((x0 != x0))):∃ r,φ r/\C x0 r:=
 mEnt (fd:=Tryz.f129) (body:=B) (V:=W) (res:=res) <|
 mRet 9 h
end q62_
namespace q47_
noncomputable def B:Code:=(Tryz.f94.body).getD .skip
def W:List Nat:=[0,1,4,5,6,11,12,13,16,19]
def res (r:Int):D×List D:=(.lit (.int .i64 r),[])
def C (x0 x1 r:Int):Prop:=Ret env 94 [.lit (.int .i64 x0),.lit (.int .i64 x1)] (res r).1 (res r).2
theorem enter (x0 x1:Int) (φ:Int->Prop) (h :
 ∃ r1:Bool,q62_.C x0 r1 /\
 ∃ r2:Bool,q62_.C x1 r2 /\
 (if r1=true then
 (if r2=true then
 φ 0
 else
 φ ((-1)))
 else
 (if r2=true then
 φ 1
 else
 (if x0<x1 then
 φ ((-1))
 else
 (if x1<x0 then
 φ 1
 else
 φ 0))))):∃ r,φ r/\C x0 x1 r:=
 mEnt (fd:=Tryz.f94) (body:=B) (V:=W) (res:=res) <|
 mCal 5 h (fun _ h=>h) fun r1 _ h=>
 mCal 4 h (fun _ h=>h) fun r2 _ h=>
 mAsk 3 h id fls (fun h=>
 mAsk 3 h id fls (fun h=>
 mRet 5 h) fun h=>
 mRet 6 h) fun h=>
 mAsk 4 h id fls (fun h=>
 mRet 5 h) fun h=>
 mAsk 6 h dT dF (fun h=>
 mRet 5 h) fun h=>
 mAsk 6 h dT dF (fun h=>
 mRet 5 h) fun h=>
 mRet 6 h
end q47_
namespace q30_
noncomputable def B:Code:=(Tryz.f71.body).getD .skip
def W:List Nat:=[0,1,4,5,6,7,8,9,10,11,12,19,28,35]
def res (r:Int):D×List D:=(.lit (.int .i64 r),[])
def C (x0 x1:List Int) (r:Int):Prop:=Ret env 71 [.sl (x0.map (eI .i64)),.sl (x1.map (eI .i64))] (res r).1 (res r).2
def L1 (x0 x1:List Int) (z0:Int) (φ:Int->Prop):Prop:=Pt env 71 W B [1,0,1,0] [(0,.sl (x0.map (eI .i64))),(1,.sl (x1.map (eI .i64))),(9,.sl (x0.map (eI .i64))),(10,.lit (.int .i64 ((x0.length:Int)))),(11,.lit (.int .i64 z0))] (Lv env 71 Tryz.f71 2 res φ)
theorem L1_step (x0 x1:List Int) (z0:Int) (φ:Int->Prop) (h :
 (if z0<(x0.length:Int) then
 ∃ a1,lget x0 z0=some a1 /\
 (if (x1.length:Int)<=z0 then
 φ 1
 else
 ∃ a3,lget x1 z0=some a3 /\
 ∃ r5:Int,q47_.C a1 a3 r5 /\
 (if r5=0 then
 q30_.L1 x0 x1 ((IntKind.wrap .i64 (z0+1))) φ
 else
 φ r5))
 else
 (if (x0.length:Int)<(x1.length:Int) then
 φ ((-1))
 else
 φ 0))):L1 x0 x1 z0 φ:=
 mIn <|
 mAsk 2 h dT dF (fun h=>
 mIx 5 (eI .i64) h fun a1 h2 h=>
 mLen 7 (eI .i64) x1 <|
 mAsk 0 h dT dF (fun h=>
 mRet 5 h) fun h=>
 mIx 6 (eI .i64) h fun a3 h4 h=>
 mCal 6 h (fun _ h=>h) fun r5 _ h=>
 Adn 4 h Acz Acy (fun h=>
 mRet 6 h) fun h=>
 mFin 7 h) fun h=>
 mLen 5 (eI .i64) x0 <|
 mLen 1 (eI .i64) x1 <|
 mAsk 0 h dT dF (fun h=>
 mRet 5 h) fun h=>
 mRet 6 h
theorem enter (x0 x1:List Int) (φ:Int->Prop) (h :
 q30_.L1 x0 x1 0 φ):∃ r,φ r/\C x0 x1 r:=
 mEnt (fd:=Tryz.f71) (body:=B) (V:=W) (res:=res) <|
 mLen 5 (eI .i64) x0 <|
 mFin 2 h
end q30_
namespace q3_
noncomputable def B:Code:=(Tryz.f121.body).getD .skip
def W:List Nat:=[0,1,2,3,8,9,14,34,1000000]
def res (r:List (List Int)):D×List D:=(.tup [],[.own (r.map (eSl (eI .i64)))])
def C (x1 x2:Int) (k0_0 r:List (List Int)):Prop:=Ret env 121 [.own (k0_0.map (eSl (eI .i64))),.lit (.int .i64 x1),.lit (.int .i64 x2),.fn 71 []] (res r).1 (res r).2
def L1 (x1 x2 z0:Int) (k0_0:List (List Int)) (φ:List (List Int)->Prop):Prop:=Pt env 121 W B [1,0] [(0,.alias 1000000 []),(1,.lit (.int .i64 x1)),(2,.lit (.int .i64 x2)),(3,.fn 71 []),(8,.lit (.int .i64 z0)),(1000000,.own (k0_0.map (eSl (eI .i64))))] (Lv env 121 Tryz.f121 4 res φ)
def L2 (x1 x2:Int) (z0 z1:Int) (k0_0:List (List Int)) (φ:List (List Int)->Prop):Prop:=Pt env 121 W B [1,0,0,1,0,0,1,0] [(0,.alias 1000000 []),(1,.lit (.int .i64 x1)),(2,.lit (.int .i64 x2)),(3,.fn 71 []),(8,.lit (.int .i64 z0)),(9,.lit (.int .i64 z1)),(1000000,.own (k0_0.map (eSl (eI .i64))))] (Lv env 121 Tryz.f121 4 res φ)
def L3 (x1 x2 z0:Int) (k0_0:List (List Int)) (φ:List (List Int)->Prop):Prop:=Pt env 121 W B [1,0,0,1,1] [(0,.alias 1000000 []),(1,.lit (.int .i64 x1)),(2,.lit (.int .i64 x2)),(3,.fn 71 []),(8,.lit (.int .i64 z0)),(1000000,.own (k0_0.map (eSl (eI .i64))))] (Lv env 121 Tryz.f121 4 res φ)
theorem L1_step (x1 x2 z0:Int) (k0_0:List (List Int)) (φ:List (List Int)->Prop) (h :
 (if z0<x2 then
 q3_.L2 x1 x2 z0 z0 k0_0 φ
 else
 φ k0_0)):L1 x1 x2 z0 k0_0 φ:=
 mIn <|
 mAsk 4 h dT dF (fun h=>
 mFin 7 h) fun h=>
 mRet 2 h
theorem L2_step (x1 x2:Int) (z0 z1:Int) (k0_0:List (List Int)) (φ:List (List Int)->Prop) (h :
 (if x1<z1 then
 ∃ a1,lget k0_0 z1=some a1 /\
 ∃ a3,lget k0_0 ((IntKind.wrap .i64 (z1-1)))=some a3 /\
 ∃ r5:Int,q30_.C a1 a3 r5 /\
 (if r5<0 then
 ∃ a6,lget ((lset k0_0 z1 a3)) ((IntKind.wrap .i64 (z1-1)))=some a6 /\
 q3_.L2 x1 x2 z0 ((IntKind.wrap .i64 (z1-1))) ((lset (lset k0_0 z1 a3) (IntKind.wrap .i64 (z1-1)) a1)) φ
 else
 q3_.L3 x1 x2 z0 k0_0 φ)
 else
 q3_.L3 x1 x2 z0 k0_0 φ)):L2 x1 x2 z0 z1 k0_0 φ:=
 mIn <|
 mAsk 4 h dT dF (fun h=>
 mIy 4 (eSl (eI .i64)) h fun a1 h2 h=>
 mLd 0 (eSl (eI .i64)) h2 <|
 mIy 3 (eSl (eI .i64)) h fun a3 h4 h=>
 mLd 0 (eSl (eI .i64)) h4 <|
 mCal 0 h (fun _ h=>h) fun r5 _ h=>
 mAsk 0 h dT dF (fun h=>
 mIyf 13 (eSl (eI .i64)) h4 <|
 mLd 0 (eSl (eI .i64)) h4 <|
 mIyf 2 (eSl (eI .i64)) h2 <|
 mLd 0 (eSl (eI .i64)) h2 <|
 mIyf 0 (eSl (eI .i64)) h2 <|
 Adx 0 (eSl (eI .i64)) a3 h2 <|
 mIy 0 (eSl (eI .i64)) h fun a6 h7 h=>
 mSto 0 (eSl (eI .i64)) a1 h7 <|
 mFin 6 h) fun h=>
 mFin 4 h) fun h=>
 mFin 17 h
theorem L3_step (x1 x2 z0:Int) (k0_0:List (List Int)) (φ:List (List Int)->Prop) (h :
 q3_.L1 x1 x2 ((IntKind.wrap .i64 (z0+1))) k0_0 φ):L3 x1 x2 z0 k0_0 φ:=
 mIn <|
 mFin 5 h
theorem enter (x1 x2:Int) (k0_0:List (List Int)) (φ:List (List Int)->Prop) (h :
 q3_.L1 x1 x2 ((IntKind.wrap .i64 (x1+1))) k0_0 φ):∃ r,φ r/\C x1 x2 k0_0 r:=
 mEnt (fd:=Tryz.f121) (body:=B) (V:=W) (res:=res) <|
 mFin 5 h
end q3_
namespace q11_
noncomputable def B:Code:=(Tryz.f141.body).getD .skip
def W:List Nat:=[0,1,2,3,4,10,11,18,40,58,1000000]
def res (r:List (List Int)):D×List D:=(.tup [],[.own (r.map (eSl (eI .i64)))])
def C (x1 x2 x3:Int) (k0_0 r:List (List Int)):Prop:=Ret env 141 [.own (k0_0.map (eSl (eI .i64))),.lit (.int .i64 x1),.lit (.int .i64 x2),.lit (.int .i64 x3),.fn 71 []] (res r).1 (res r).2
def L1 (x2 x3 x1:Int) (k0_0:List (List Int)) (φ:List (List Int)->Prop):Prop:=Pt env 141 W B [1,0] [(0,.alias 1000000 []),(2,.lit (.int .i64 x2)),(3,.lit (.int .i64 x3)),(4,.fn 71 []),(10,.lit (.int .i64 x1)),(1000000,.own (k0_0.map (eSl (eI .i64))))] (Lv env 141 Tryz.f141 5 res φ)
def L2 (x2 x3:Int) (x1 z0:Int) (k0_0:List (List Int)) (φ:List (List Int)->Prop):Prop:=Pt env 141 W B [1,0,0,0,1,1,1,0,0] [(0,.alias 1000000 []),(2,.lit (.int .i64 x2)),(3,.lit (.int .i64 x3)),(4,.fn 71 []),(10,.lit (.int .i64 x1)),(11,.lit (.int .i64 z0)),(1000000,.own (k0_0.map (eSl (eI .i64))))] (Lv env 141 Tryz.f141 5 res φ)
theorem L1_step (x2 x3 x1:Int) (k0_0:List (List Int)) (φ:List (List Int)->Prop) (h :
 (if x2<=(IntKind.wrap .i64 ((IntKind.wrap .i64 (2*x1))+1)) then
 φ k0_0
 else
 (if (IntKind.wrap .i64 ((IntKind.wrap .i64 ((IntKind.wrap .i64 (2*x1))+1))+1))<x2 then
 ∃ a1,lget k0_0 ((IntKind.wrap .i64 (x3+(IntKind.wrap .i64 ((IntKind.wrap .i64 (2*x1))+1)))))=some a1 /\
 ∃ a3,lget k0_0 ((IntKind.wrap .i64 ((IntKind.wrap .i64 (x3+(IntKind.wrap .i64 ((IntKind.wrap .i64 (2*x1))+1))))+1)))=some a3 /\
 ∃ r5:Int,q30_.C a1 a3 r5 /\
 (if r5<0 then
 q11_.L2 x2 x3 x1 ((IntKind.wrap .i64 ((IntKind.wrap .i64 ((IntKind.wrap .i64 (2*x1))+1))+1))) k0_0 φ
 else
 q11_.L2 x2 x3 x1 ((IntKind.wrap .i64 ((IntKind.wrap .i64 (2*x1))+1))) k0_0 φ)
 else
 q11_.L2 x2 x3 x1 ((IntKind.wrap .i64 ((IntKind.wrap .i64 (2*x1))+1))) k0_0 φ))):L1 x2 x3 x1 k0_0 φ:=
 mIn <|
 mAsk 10 h dT dF (fun h=>
 mRet 2 h) fun h=>
 mAsk 7 h dT dF (fun h=>
 mIy 6 (eSl (eI .i64)) h fun a1 h2 h=>
 mLd 0 (eSl (eI .i64)) h2 <|
 mIy 5 (eSl (eI .i64)) h fun a3 h4 h=>
 mLd 0 (eSl (eI .i64)) h4 <|
 mCal 0 h (fun _ h=>h) fun r5 _ h=>
 mAsk 0 h dT dF (fun h=>
 mFin 8 h) fun h=>
 mFin 4 h) fun h=>
 mFin 21 h
theorem L2_step (x2 x3:Int) (x1 z0:Int) (k0_0:List (List Int)) (φ:List (List Int)->Prop) (h :
 ∃ a6,lget k0_0 ((IntKind.wrap .i64 (x3+x1)))=some a6 /\
 ∃ a8,lget k0_0 ((IntKind.wrap .i64 (x3+z0)))=some a8 /\
 ∃ r10:Int,q30_.C a6 a8 r10 /\
 (if r10<0 then
 ∃ a11,lget ((lset k0_0 (IntKind.wrap .i64 (x3+x1)) a8)) ((IntKind.wrap .i64 (x3+z0)))=some a11 /\
 q11_.L1 x2 x3 z0 ((lset (lset k0_0 (IntKind.wrap .i64 (x3+x1)) a8) (IntKind.wrap .i64 (x3+z0)) a6)) φ
 else
 φ k0_0)):L2 x2 x3 x1 z0 k0_0 φ:=
 mIn <|
 mIy 6 (eSl (eI .i64)) h fun a6 h7 h=>
 mLd 0 (eSl (eI .i64)) h7 <|
 mIy 4 (eSl (eI .i64)) h fun a8 h9 h=>
 mLd 0 (eSl (eI .i64)) h9 <|
 mCal 0 h (fun _ h=>h) fun r10 _ h=>
 mAsk 0 h dT dF (fun h=>
 mIyf 17 (eSl (eI .i64)) h9 <|
 mLd 0 (eSl (eI .i64)) h9 <|
 mIyf 4 (eSl (eI .i64)) h7 <|
 mLd 0 (eSl (eI .i64)) h7 <|
 mIyf 0 (eSl (eI .i64)) h7 <|
 Adx 0 (eSl (eI .i64)) a8 h7 <|
 mIy 0 (eSl (eI .i64)) h fun a11 h12 h=>
 mSto 0 (eSl (eI .i64)) a6 h12 <|
 mFin 5 h) fun h=>
 mRet 3 h
theorem enter (x1 x2 x3:Int) (k0_0:List (List Int)) (φ:List (List Int)->Prop) (h :
 q11_.L1 x2 x3 x1 k0_0 φ):∃ r,φ r/\C x1 x2 x3 k0_0 r:=
 mEnt (fd:=Tryz.f141) (body:=B) (V:=W) (res:=res) <|
 mFin 4 h
end q11_
namespace q12_
noncomputable def B:Code:=(Tryz.f122.body).getD .skip
def W:List Nat:=[0,1,2,3,8,9,10,11,12,21,33,1000000]
def res (r:List (List Int)):D×List D:=(.tup [],[.own (r.map (eSl (eI .i64)))])
def C (x1 x2:Int) (k0_0 r:List (List Int)):Prop:=Ret env 122 [.own (k0_0.map (eSl (eI .i64))),.lit (.int .i64 x1),.lit (.int .i64 x2),.fn 71 []] (res r).1 (res r).2
def L1 (x1 z0 z1:Int) (k0_0:List (List Int)) (φ:List (List Int)->Prop):Prop:=Pt env 122 W B [1,1,1,0,1,0] [(0,.alias 1000000 []),(3,.fn 71 []),(8,.lit (.int .i64 x1)),(9,.lit (.int .i64 0)),(10,.lit (.int .i64 z0)),(11,.lit (.int .i64 z1)),(1000000,.own (k0_0.map (eSl (eI .i64))))] (Lv env 122 Tryz.f122 4 res φ)
def L2 (x1 z0:Int) (k0_0:List (List Int)) (φ:List (List Int)->Prop):Prop:=Pt env 122 W B [1,1,1,1,1,0] [(0,.alias 1000000 []),(3,.fn 71 []),(8,.lit (.int .i64 x1)),(9,.lit (.int .i64 0)),(12,.lit (.int .i64 z0)),(1000000,.own (k0_0.map (eSl (eI .i64))))] (Lv env 122 Tryz.f122 4 res φ)
theorem L1_step (x1 z0 z1:Int) (k0_0:List (List Int)) (φ:List (List Int)->Prop) (h :
 (if 0<=z1 then
 ∃ r1:List (List Int),q11_.C z1 z0 x1 k0_0 r1 /\
 q12_.L1 x1 z0 ((IntKind.wrap .i64 (z1-1))) r1 φ
 else
 q12_.L2 x1 ((IntKind.wrap .i64 (z0-1))) k0_0 φ)):L1 x1 z0 z1 k0_0 φ:=
 mIn <|
 mAsk 3 h dT dF (fun h=>
 mCal 9 h (fun _ h=>h) (hf:=(fun _=>Ab7)) fun r1 _ h=>
 mFin 6 h) fun h=>
 mFin 8 h
theorem L2_step (x1 z0:Int) (k0_0:List (List Int)) (φ:List (List Int)->Prop) (h :
 (if 0<=z0 then
 ∃ a2,lget k0_0 ((IntKind.wrap .i64 (x1+z0)))=some a2 /\
 ∃ a4,lget k0_0 x1=some a4 /\
 ∃ a6,lget ((lset k0_0 x1 a2)) ((IntKind.wrap .i64 (x1+z0)))=some a6 /\
 ∃ r8:List (List Int),q11_.C 0 z0 x1 ((lset (lset k0_0 x1 a2) (IntKind.wrap .i64 (x1+z0)) a4)) r8 /\
 q12_.L2 x1 ((IntKind.wrap .i64 (z0-1))) r8 φ
 else
 φ k0_0)):L2 x1 z0 k0_0 φ:=
 mIn <|
 mAsk 3 h dT dF (fun h=>
 mIy 14 (eSl (eI .i64)) h fun a2 h3 h=>
 mLd 0 (eSl (eI .i64)) h3 <|
 mIy 2 (eSl (eI .i64)) h fun a4 h5 h=>
 mLd 0 (eSl (eI .i64)) h5 <|
 mIyf 0 (eSl (eI .i64)) h5 <|
 Adx 0 (eSl (eI .i64)) a2 h5 <|
 mIy 0 (eSl (eI .i64)) h fun a6 h7 h=>
 mSto 0 (eSl (eI .i64)) a4 h7 <|
 mCal 7 h (fun _ h=>h) (hf:=(fun _=>Ab7)) fun r8 _ h=>
 mFin 6 h) fun h=>
 mRet 2 h
theorem enter (x1 x2:Int) (k0_0:List (List Int)) (φ:List (List Int)->Prop) (h :
 q12_.L1 x1 ((IntKind.wrap .i64 (x2-x1))) ((IntKind.wrap .i64 (Int.tdiv (IntKind.wrap .i64 ((IntKind.wrap .i64 (x2-x1))-1)) 2))) k0_0 φ):∃ r,φ r/\C x1 x2 k0_0 r:=
 mEnt (fd:=Tryz.f122) (body:=B) (V:=W) (res:=res) <|
 mFin 19 h
end q12_
namespace q0_
noncomputable def B:Code:=(Tryz.f126.body).getD .skip
def W:List Nat:=[0,1,2,3,8,9,10,11,12,16,36,41,45,65,69,84,104,109,124,1000000]
def res (r:Bool×List (List Int)):D×List D:=(.lit (.bool r.1),[.own (r.2.map (eSl (eI .i64)))])
def C (x1 x2:Int) (k0_0:List (List Int)) (r:Bool×List (List Int)):Prop:=Ret env 126 [.own (k0_0.map (eSl (eI .i64))),.lit (.int .i64 x1),.lit (.int .i64 x2),.fn 71 []] (res r).1 (res r).2
def L1 (x1 x2:Int) (z0 z1:Int) (k0_0:List (List Int)) (φ:Bool×List (List Int)->Prop):Prop:=Pt env 126 W B [1,1,0,1,0] [(0,.alias 1000000 []),(1,.lit (.int .i64 x1)),(2,.lit (.int .i64 x2)),(3,.fn 71 []),(9,.lit (.int .i64 z0)),(10,.lit (.int .i64 z1)),(1000000,.own (k0_0.map (eSl (eI .i64))))] (Lv env 126 Tryz.f126 4 res φ)
def L2 (x1 x2:Int) (z0 z1:Int) (k0_0:List (List Int)) (φ:Bool×List (List Int)->Prop):Prop:=Pt env 126 W B [1,1,0,1,0,0,1,0,0,0,0] [(0,.alias 1000000 []),(1,.lit (.int .i64 x1)),(2,.lit (.int .i64 x2)),(3,.fn 71 []),(9,.lit (.int .i64 z0)),(10,.lit (.int .i64 z1)),(1000000,.own (k0_0.map (eSl (eI .i64))))] (Lv env 126 Tryz.f126 4 res φ)
def L5 (x1 x2:Int) (z0 z1:Int) (k0_0:List (List Int)) (φ:Bool×List (List Int)->Prop):Prop:=Pt env 126 W B [1,1,0,1,0,0,1,0,0,1,0,0] [(0,.alias 1000000 []),(1,.lit (.int .i64 x1)),(2,.lit (.int .i64 x2)),(3,.fn 71 []),(9,.lit (.int .i64 z0)),(10,.lit (.int .i64 z1)),(1000000,.own (k0_0.map (eSl (eI .i64))))] (Lv env 126 Tryz.f126 4 res φ)
def L3 (x1 x2:Int) (z0 z1 z2:Int) (z3:List (List Int)) (φ:Bool×List (List Int)->Prop):Prop:=Pt env 126 W B [1,1,0,1,0,0,1,0,0,1,1,1,1,0,1,0,1,0] [(0,.alias 1000000 []),(1,.lit (.int .i64 x1)),(2,.lit (.int .i64 x2)),(3,.fn 71 []),(9,.lit (.int .i64 z0)),(10,.lit (.int .i64 z1)),(11,.lit (.int .i64 z2)),(1000000,.own (z3.map (eSl (eI .i64))))] (Lv env 126 Tryz.f126 4 res φ)
def L6 (x1 x2:Int) (z0 z1:Int) (z2:List (List Int)) (φ:Bool×List (List Int)->Prop):Prop:=Pt env 126 W B [1,1,0,1,0,0,1,0,0,1,1,1,1,1,0] [(0,.alias 1000000 []),(1,.lit (.int .i64 x1)),(2,.lit (.int .i64 x2)),(3,.fn 71 []),(9,.lit (.int .i64 z0)),(10,.lit (.int .i64 z1)),(1000000,.own (z2.map (eSl (eI .i64))))] (Lv env 126 Tryz.f126 4 res φ)
def L4 (x1 x2:Int) (z0 z1 z2:Int) (z3:List (List Int)) (φ:Bool×List (List Int)->Prop):Prop:=Pt env 126 W B [1,1,0,1,0,0,1,0,0,1,1,1,1,1,1,0,1,0] [(0,.alias 1000000 []),(1,.lit (.int .i64 x1)),(2,.lit (.int .i64 x2)),(3,.fn 71 []),(9,.lit (.int .i64 z0)),(10,.lit (.int .i64 z1)),(12,.lit (.int .i64 z2)),(1000000,.own (z3.map (eSl (eI .i64))))] (Lv env 126 Tryz.f126 4 res φ)
def L7 (x1 x2:Int) (z0 z1:Int) (z2:List (List Int)) (φ:Bool×List (List Int)->Prop):Prop:=Pt env 126 W B [1,1,0,1,0,0,1,1] [(0,.alias 1000000 []),(1,.lit (.int .i64 x1)),(2,.lit (.int .i64 x2)),(3,.fn 71 []),(9,.lit (.int .i64 z0)),(10,.lit (.int .i64 z1)),(1000000,.own (z2.map (eSl (eI .i64))))] (Lv env 126 Tryz.f126 4 res φ)
theorem L1_step (x1 x2:Int) (z0 z1:Int) (k0_0:List (List Int)) (φ:Bool×List (List Int)->Prop) (h :
 (if z1<5 then
 q0_.L2 x1 x2 z0 z1 k0_0 φ
 else
 φ ((false,k0_0)))):L1 x1 x2 z0 z1 k0_0 φ:=
 mIn <|
 mAsk 3 h dT dF (fun h=>
 mFin 3 h) fun h=>
 mRet 6 h
theorem L2_step (x1 x2:Int) (z0 z1:Int) (k0_0:List (List Int)) (φ:Bool×List (List Int)->Prop) (h :
 (if z0<x2 then
 ∃ a1,lget k0_0 z0=some a1 /\
 ∃ a3,lget k0_0 ((IntKind.wrap .i64 (z0-1)))=some a3 /\
 ∃ r5:Int,q30_.C a1 a3 r5 /\
 (if r5<0 then
 q0_.L5 x1 x2 z0 z1 k0_0 φ
 else
 q0_.L2 x1 x2 ((IntKind.wrap .i64 (z0+1))) z1 k0_0 φ)
 else
 q0_.L5 x1 x2 z0 z1 k0_0 φ)):L2 x1 x2 z0 z1 k0_0 φ:=
 mIn <|
 mAsk 4 h dT dF (fun h=>
 mIy 4 (eSl (eI .i64)) h fun a1 h2 h=>
 mLd 0 (eSl (eI .i64)) h2 <|
 mIy 3 (eSl (eI .i64)) h fun a3 h4 h=>
 mLd 0 (eSl (eI .i64)) h4 <|
 mCal 0 h (fun _ h=>h) fun r5 _ h=>
 mAsk 0 h dT dF (fun h=>
 mFin 5 h) fun h=>
 mFin 10 h) fun h=>
 mFin 18 h
theorem L5_step (x1 x2:Int) (z0 z1:Int) (k0_0:List (List Int)) (φ:Bool×List (List Int)->Prop) (h :
 (if z0=x2 then
 φ ((true,k0_0))
 else
 (if (IntKind.wrap .i64 (x2-x1))<50 then
 φ ((false,k0_0))
 else
 ∃ a6,lget k0_0 ((IntKind.wrap .i64 (z0-1)))=some a6 /\
 ∃ a8,lget k0_0 z0=some a8 /\
 ∃ a10,lget ((lset k0_0 z0 a6)) ((IntKind.wrap .i64 (z0-1)))=some a10 /\
 (if 2<=(IntKind.wrap .i64 (z0-x1)) then
 q0_.L3 x1 x2 z0 z1 ((IntKind.wrap .i64 (z0-1))) ((lset (lset k0_0 z0 a6) (IntKind.wrap .i64 (z0-1)) a8)) φ
 else
 q0_.L6 x1 x2 z0 z1 ((lset (lset k0_0 z0 a6) (IntKind.wrap .i64 (z0-1)) a8)) φ)))):L5 x1 x2 z0 z1 k0_0 φ:=
 mIn <|
 mAsk 3 h Aax Aaw (fun h=>
 mRet 5 h) fun h=>
 mAsk 7 h dT dF (fun h=>
 mRet 5 h) fun h=>
 mIy 12 (eSl (eI .i64)) h fun a6 h7 h=>
 mLd 0 (eSl (eI .i64)) h7 <|
 mIy 2 (eSl (eI .i64)) h fun a8 h9 h=>
 mLd 0 (eSl (eI .i64)) h9 <|
 mIyf 0 (eSl (eI .i64)) h9 <|
 Adx 0 (eSl (eI .i64)) a6 h9 <|
 mIy 0 (eSl (eI .i64)) h fun a10 h11 h=>
 mSto 0 (eSl (eI .i64)) a8 h11 <|
 mAsk 5 h dT dF (fun h=>
 mFin 7 h) fun h=>
 mFin 3 h
theorem L3_step (x1 x2:Int) (z0 z1 z2:Int) (z3:List (List Int)) (φ:Bool×List (List Int)->Prop) (h :
 (if 1<=z2 then
 ∃ a12,lget z3 z2=some a12 /\
 ∃ a14,lget z3 ((IntKind.wrap .i64 (z2-1)))=some a14 /\
 ∃ r16:Int,q30_.C a12 a14 r16 /\
 (if r16<0 then
 ∃ a17,lget ((lset z3 z2 a14)) ((IntKind.wrap .i64 (z2-1)))=some a17 /\
 q0_.L3 x1 x2 z0 z1 ((IntKind.wrap .i64 (z2-1))) ((lset (lset z3 z2 a14) (IntKind.wrap .i64 (z2-1)) a12)) φ
 else
 q0_.L6 x1 x2 z0 z1 z3 φ)
 else
 q0_.L6 x1 x2 z0 z1 z3 φ)):L3 x1 x2 z0 z1 z2 z3 φ:=
 mIn <|
 mAsk 3 h dT dF (fun h=>
 mIy 7 (eSl (eI .i64)) h fun a12 h13 h=>
 mLd 0 (eSl (eI .i64)) h13 <|
 mIy 3 (eSl (eI .i64)) h fun a14 h15 h=>
 mLd 0 (eSl (eI .i64)) h15 <|
 mCal 0 h (fun _ h=>h) fun r16 _ h=>
 mAsk 0 h dT dF (fun h=>
 mIyf 13 (eSl (eI .i64)) h15 <|
 mLd 0 (eSl (eI .i64)) h15 <|
 mIyf 2 (eSl (eI .i64)) h13 <|
 mLd 0 (eSl (eI .i64)) h13 <|
 mIyf 0 (eSl (eI .i64)) h13 <|
 Adx 0 (eSl (eI .i64)) a14 h13 <|
 mIy 0 (eSl (eI .i64)) h fun a17 h18 h=>
 mSto 0 (eSl (eI .i64)) a12 h18 <|
 mFin 6 h) fun h=>
 mFin 4 h) fun h=>
 mFin 3 h
theorem L6_step (x1 x2:Int) (z0 z1:Int) (z2:List (List Int)) (φ:Bool×List (List Int)->Prop) (h :
 (if 2<=(IntKind.wrap .i64 (x2-z0)) then
 q0_.L4 x1 x2 z0 z1 ((IntKind.wrap .i64 (z0+1))) z2 φ
 else
 q0_.L7 x1 x2 z0 z1 z2 φ)):L6 x1 x2 z0 z1 z2 φ:=
 mIn <|
 mAsk 4 h dT dF (fun h=>
 mFin 7 h) fun h=>
 mFin 3 h
theorem L4_step (x1 x2:Int) (z0 z1 z2:Int) (z3:List (List Int)) (φ:Bool×List (List Int)->Prop) (h :
 (if z2<x2 then
 ∃ a19,lget z3 z2=some a19 /\
 ∃ a21,lget z3 ((IntKind.wrap .i64 (z2-1)))=some a21 /\
 ∃ r23:Int,q30_.C a19 a21 r23 /\
 (if r23<0 then
 ∃ a24,lget ((lset z3 z2 a21)) ((IntKind.wrap .i64 (z2-1)))=some a24 /\
 q0_.L4 x1 x2 z0 z1 ((IntKind.wrap .i64 (z2+1))) ((lset (lset z3 z2 a21) (IntKind.wrap .i64 (z2-1)) a19)) φ
 else
 q0_.L7 x1 x2 z0 z1 z3 φ)
 else
 q0_.L7 x1 x2 z0 z1 z3 φ)):L4 x1 x2 z0 z1 z2 z3 φ:=
 mIn <|
 mAsk 4 h dT dF (fun h=>
 mIy 7 (eSl (eI .i64)) h fun a19 h20 h=>
 mLd 0 (eSl (eI .i64)) h20 <|
 mIy 3 (eSl (eI .i64)) h fun a21 h22 h=>
 mLd 0 (eSl (eI .i64)) h22 <|
 mCal 0 h (fun _ h=>h) fun r23 _ h=>
 mAsk 0 h dT dF (fun h=>
 mIyf 13 (eSl (eI .i64)) h22 <|
 mLd 0 (eSl (eI .i64)) h22 <|
 mIyf 2 (eSl (eI .i64)) h20 <|
 mLd 0 (eSl (eI .i64)) h20 <|
 mIyf 0 (eSl (eI .i64)) h20 <|
 Adx 0 (eSl (eI .i64)) a21 h20 <|
 mIy 0 (eSl (eI .i64)) h fun a24 h25 h=>
 mSto 0 (eSl (eI .i64)) a19 h25 <|
 mFin 6 h) fun h=>
 mFin 4 h) fun h=>
 mFin 3 h
theorem L7_step (x1 x2:Int) (z0 z1:Int) (z2:List (List Int)) (φ:Bool×List (List Int)->Prop) (h :
 q0_.L1 x1 x2 z0 ((IntKind.wrap .i64 (z1+1))) z2 φ):L7 x1 x2 z0 z1 z2 φ:=
 mIn <|
 mFin 5 h
theorem enter (x1 x2:Int) (k0_0:List (List Int)) (φ:Bool×List (List Int)->Prop) (h :
 q0_.L1 x1 x2 ((IntKind.wrap .i64 (x1+1))) 0 k0_0 φ):∃ r,φ r/\C x1 x2 k0_0 r:=
 mEnt (fd:=Tryz.f126) (body:=B) (V:=W) (res:=res) <|
 mFin 11 h
end q0_
namespace q8_
noncomputable def B:Code:=(Tryz.f128.body).getD .skip
def W:List Nat:=[0,1,2,3,4,10,11,12,13,47,66,71,120,139,144,1000000]
def res (r:Int×Bool×List (List Int)):D×List D:=(.tup [.lit (.int .i64 r.1),.lit (.bool r.2.1)],[.own (r.2.2.map (eSl (eI .i64)))])
def C (x1 x2 x3:Int) (k0_0:List (List Int)) (r:Int×Bool×List (List Int)):Prop:=Ret env 128 [.own (k0_0.map (eSl (eI .i64))),.lit (.int .i64 x1),.lit (.int .i64 x2),.lit (.int .i64 x3),.fn 71 []] (res r).1 (res r).2
def L1 (x1 z0 z1:Int) (z2:List (List Int)) (φ:Int×Bool×List (List Int)->Prop):Prop:=Pt env 128 W B [1,1,1,0,0] [(0,.alias 1000000 []),(1,.lit (.int .i64 x1)),(4,.fn 71 []),(12,.lit (.int .i64 z0)),(13,.lit (.int .i64 z1)),(1000000,.own (z2.map (eSl (eI .i64))))] (Lv env 128 Tryz.f128 5 res φ)
def L2 (x1 z0 z1:Int) (z2:List (List Int)) (φ:Int×Bool×List (List Int)->Prop):Prop:=Pt env 128 W B [1,1,1,1,0,0] [(0,.alias 1000000 []),(1,.lit (.int .i64 x1)),(4,.fn 71 []),(12,.lit (.int .i64 z0)),(13,.lit (.int .i64 z1)),(1000000,.own (z2.map (eSl (eI .i64))))] (Lv env 128 Tryz.f128 5 res φ)
def L4 (x1 z0 z1:Int) (z2:List (List Int)) (φ:Int×Bool×List (List Int)->Prop):Prop:=Pt env 128 W B [1,1,1,1,1,0,0] [(0,.alias 1000000 []),(1,.lit (.int .i64 x1)),(4,.fn 71 []),(12,.lit (.int .i64 z0)),(13,.lit (.int .i64 z1)),(1000000,.own (z2.map (eSl (eI .i64))))] (Lv env 128 Tryz.f128 5 res φ)
def L3 (x1 z0 z1:Int) (z2:List (List Int)) (φ:Int×Bool×List (List Int)->Prop):Prop:=Pt env 128 W B [1,1,1,1,1,1,1,1,1,0,0] [(0,.alias 1000000 []),(1,.lit (.int .i64 x1)),(4,.fn 71 []),(12,.lit (.int .i64 z0)),(13,.lit (.int .i64 z1)),(1000000,.own (z2.map (eSl (eI .i64))))] (Lv env 128 Tryz.f128 5 res φ)
def L5 (x1 z0 z1:Int) (z2:List (List Int)) (φ:Int×Bool×List (List Int)->Prop):Prop:=Pt env 128 W B [1,1,1,1,1,1,1,1,1,0,0,0,0,0,0] [(0,.alias 1000000 []),(1,.lit (.int .i64 x1)),(4,.fn 71 []),(12,.lit (.int .i64 z0)),(13,.lit (.int .i64 z1)),(1000000,.own (z2.map (eSl (eI .i64))))] (Lv env 128 Tryz.f128 5 res φ)
def L6 (x1 z0 z1:Int) (z2:List (List Int)) (φ:Int×Bool×List (List Int)->Prop):Prop:=Pt env 128 W B [1,1,1,1,1,1,1,1,1,0,0,0,0,1,0,0] [(0,.alias 1000000 []),(1,.lit (.int .i64 x1)),(4,.fn 71 []),(12,.lit (.int .i64 z0)),(13,.lit (.int .i64 z1)),(1000000,.own (z2.map (eSl (eI .i64))))] (Lv env 128 Tryz.f128 5 res φ)
def L7 (x1 z0 z1:Int) (z2:List (List Int)) (φ:Int×Bool×List (List Int)->Prop):Prop:=Pt env 128 W B [1,1,1,1,1,1,1,1,1,0,0,0,0,1,1,0,0] [(0,.alias 1000000 []),(1,.lit (.int .i64 x1)),(4,.fn 71 []),(12,.lit (.int .i64 z0)),(13,.lit (.int .i64 z1)),(1000000,.own (z2.map (eSl (eI .i64))))] (Lv env 128 Tryz.f128 5 res φ)
theorem L1_step (x1 z0 z1:Int) (z2:List (List Int)) (φ:Int×Bool×List (List Int)->Prop) (h :
 (if z0<=z1 then
 ∃ a7,lget z2 z0=some a7 /\
 ∃ a9,lget z2 x1=some a9 /\
 ∃ r11:Int,q30_.C a7 a9 r11 /\
 (if r11<0 then
 q8_.L1 x1 ((IntKind.wrap .i64 (z0+1))) z1 z2 φ
 else
 q8_.L2 x1 z0 z1 z2 φ)
 else
 q8_.L2 x1 z0 z1 z2 φ)):L1 x1 z0 z1 z2 φ:=
 mIn <|
 mAsk 4 h dT dF (fun h=>
 mIy 4 (eSl (eI .i64)) h fun a7 h8 h=>
 mLd 0 (eSl (eI .i64)) h8 <|
 mIy 2 (eSl (eI .i64)) h fun a9 h10 h=>
 mLd 0 (eSl (eI .i64)) h10 <|
 mCal 0 h (fun _ h=>h) fun r11 _ h=>
 mAsk 0 h dT dF (fun h=>
 mFin 9 h) fun h=>
 mFin 4 h) fun h=>
 mFin 16 h
theorem L2_step (x1 z0 z1:Int) (z2:List (List Int)) (φ:Int×Bool×List (List Int)->Prop) (h :
 (if z0<=z1 then
 ∃ a12,lget z2 z1=some a12 /\
 ∃ a14,lget z2 x1=some a14 /\
 ∃ r16:Int,q30_.C a12 a14 r16 /\
 (if r16<0 then
 q8_.L4 x1 z0 z1 z2 φ
 else
 q8_.L2 x1 z0 ((IntKind.wrap .i64 (z1-1))) z2 φ)
 else
 q8_.L4 x1 z0 z1 z2 φ)):L2 x1 z0 z1 z2 φ:=
 mIn <|
 mAsk 4 h dT dF (fun h=>
 mIy 4 (eSl (eI .i64)) h fun a12 h13 h=>
 mLd 0 (eSl (eI .i64)) h13 <|
 mIy 2 (eSl (eI .i64)) h fun a14 h15 h=>
 mLd 0 (eSl (eI .i64)) h15 <|
 mCal 0 h (fun _ h=>h) fun r16 _ h=>
 mAsk 0 h dT dF (fun h=>
 mFin 5 h) fun h=>
 mFin 10 h) fun h=>
 mFin 17 h
theorem L4_step (x1 z0 z1:Int) (z2:List (List Int)) (φ:Int×Bool×List (List Int)->Prop) (h :
 (if z1<z0 then
 ∃ a17,lget z2 x1=some a17 /\
 ∃ a19,lget z2 z1=some a19 /\
 ∃ a21,lget ((lset z2 z1 a17)) x1=some a21 /\
 φ ((z1,true,(lset (lset z2 z1 a17) x1 a19)))
 else
 ∃ a23,lget z2 z1=some a23 /\
 ∃ a25,lget z2 z0=some a25 /\
 ∃ a27,lget ((lset z2 z0 a23)) z1=some a27 /\
 q8_.L3 x1 ((IntKind.wrap .i64 (z0+1))) ((IntKind.wrap .i64 (z1-1))) ((lset (lset z2 z0 a23) z1 a25)) φ)):L4 x1 z0 z1 z2 φ:=
 mIn <|
 mAsk 3 h dT dF (fun h=>
 mIy 9 (eSl (eI .i64)) h fun a17 h18 h=>
 mLd 0 (eSl (eI .i64)) h18 <|
 mIy 2 (eSl (eI .i64)) h fun a19 h20 h=>
 mLd 0 (eSl (eI .i64)) h20 <|
 mIyf 0 (eSl (eI .i64)) h20 <|
 Adx 0 (eSl (eI .i64)) a17 h20 <|
 mIy 0 (eSl (eI .i64)) h fun a21 h22 h=>
 mSto 0 (eSl (eI .i64)) a19 h22 <|
 mRet 6 h) fun h=>
 mIy 10 (eSl (eI .i64)) h fun a23 h24 h=>
 mLd 0 (eSl (eI .i64)) h24 <|
 mIy 2 (eSl (eI .i64)) h fun a25 h26 h=>
 mLd 0 (eSl (eI .i64)) h26 <|
 mIyf 0 (eSl (eI .i64)) h26 <|
 Adx 0 (eSl (eI .i64)) a23 h26 <|
 mIy 0 (eSl (eI .i64)) h fun a27 h28 h=>
 mSto 0 (eSl (eI .i64)) a25 h28 <|
 mFin 11 h
theorem L3_step (x1 z0 z1:Int) (z2:List (List Int)) (φ:Int×Bool×List (List Int)->Prop) (h :
 q8_.L5 x1 z0 z1 z2 φ):L3 x1 z0 z1 z2 φ:=
 mIn <|
 mFin 1 h
theorem L5_step (x1 z0 z1:Int) (z2:List (List Int)) (φ:Int×Bool×List (List Int)->Prop) (h :
 (if z0<=z1 then
 ∃ a29,lget z2 z0=some a29 /\
 ∃ a31,lget z2 x1=some a31 /\
 ∃ r33:Int,q30_.C a29 a31 r33 /\
 (if r33<0 then
 q8_.L5 x1 ((IntKind.wrap .i64 (z0+1))) z1 z2 φ
 else
 q8_.L6 x1 z0 z1 z2 φ)
 else
 q8_.L6 x1 z0 z1 z2 φ)):L5 x1 z0 z1 z2 φ:=
 mIn <|
 mAsk 4 h dT dF (fun h=>
 mIy 4 (eSl (eI .i64)) h fun a29 h30 h=>
 mLd 0 (eSl (eI .i64)) h30 <|
 mIy 2 (eSl (eI .i64)) h fun a31 h32 h=>
 mLd 0 (eSl (eI .i64)) h32 <|
 mCal 0 h (fun _ h=>h) fun r33 _ h=>
 mAsk 0 h dT dF (fun h=>
 mFin 9 h) fun h=>
 mFin 4 h) fun h=>
 mFin 16 h
theorem L6_step (x1 z0 z1:Int) (z2:List (List Int)) (φ:Int×Bool×List (List Int)->Prop) (h :
 (if z0<=z1 then
 ∃ a34,lget z2 z1=some a34 /\
 ∃ a36,lget z2 x1=some a36 /\
 ∃ r38:Int,q30_.C a34 a36 r38 /\
 (if r38<0 then
 q8_.L7 x1 z0 z1 z2 φ
 else
 q8_.L6 x1 z0 ((IntKind.wrap .i64 (z1-1))) z2 φ)
 else
 q8_.L7 x1 z0 z1 z2 φ)):L6 x1 z0 z1 z2 φ:=
 mIn <|
 mAsk 4 h dT dF (fun h=>
 mIy 4 (eSl (eI .i64)) h fun a34 h35 h=>
 mLd 0 (eSl (eI .i64)) h35 <|
 mIy 2 (eSl (eI .i64)) h fun a36 h37 h=>
 mLd 0 (eSl (eI .i64)) h37 <|
 mCal 0 h (fun _ h=>h) fun r38 _ h=>
 mAsk 0 h dT dF (fun h=>
 mFin 5 h) fun h=>
 mFin 10 h) fun h=>
 mFin 17 h
theorem L7_step (x1 z0 z1:Int) (z2:List (List Int)) (φ:Int×Bool×List (List Int)->Prop) (h :
 (if z1<z0 then
 ∃ a39,lget z2 x1=some a39 /\
 ∃ a41,lget z2 z1=some a41 /\
 ∃ a43,lget ((lset z2 z1 a39)) x1=some a43 /\
 φ ((z1,false,(lset (lset z2 z1 a39) x1 a41)))
 else
 ∃ a45,lget z2 z1=some a45 /\
 ∃ a47,lget z2 z0=some a47 /\
 ∃ a49,lget ((lset z2 z0 a45)) z1=some a49 /\
 q8_.L3 x1 ((IntKind.wrap .i64 (z0+1))) ((IntKind.wrap .i64 (z1-1))) ((lset (lset z2 z0 a45) z1 a47)) φ)):L7 x1 z0 z1 z2 φ:=
 mIn <|
 mAsk 3 h dT dF (fun h=>
 mIy 10 (eSl (eI .i64)) h fun a39 h40 h=>
 mLd 0 (eSl (eI .i64)) h40 <|
 mIy 2 (eSl (eI .i64)) h fun a41 h42 h=>
 mLd 0 (eSl (eI .i64)) h42 <|
 mIyf 0 (eSl (eI .i64)) h42 <|
 Adx 0 (eSl (eI .i64)) a39 h42 <|
 mIy 0 (eSl (eI .i64)) h fun a43 h44 h=>
 mSto 0 (eSl (eI .i64)) a41 h44 <|
 mRet 6 h) fun h=>
 mIy 10 (eSl (eI .i64)) h fun a45 h46 h=>
 mLd 0 (eSl (eI .i64)) h46 <|
 mIy 2 (eSl (eI .i64)) h fun a47 h48 h=>
 mLd 0 (eSl (eI .i64)) h48 <|
 mIyf 0 (eSl (eI .i64)) h48 <|
 Adx 0 (eSl (eI .i64)) a45 h48 <|
 mIy 0 (eSl (eI .i64)) h fun a49 h50 h=>
 mSto 0 (eSl (eI .i64)) a47 h50 <|
 mFin 11 h
theorem enter (x1 x2 x3:Int) (k0_0:List (List Int)) (φ:Int×Bool×List (List Int)->Prop) (h :
 ∃ a1,lget k0_0 x3=some a1 /\
 ∃ a3,lget k0_0 x1=some a3 /\
 ∃ a5,lget ((lset k0_0 x1 a1)) x3=some a5 /\
 q8_.L1 x1 ((IntKind.wrap .i64 (x1+1))) ((IntKind.wrap .i64 (x2-1))) ((lset (lset k0_0 x1 a1) x3 a3)) φ):∃ r,φ r/\C x1 x2 x3 k0_0 r:=
 mEnt (fd:=Tryz.f128) (body:=B) (V:=W) (res:=res) <|
 mIy 11 (eSl (eI .i64)) h fun a1 h2 h=>
 mLd 0 (eSl (eI .i64)) h2 <|
 mIy 2 (eSl (eI .i64)) h fun a3 h4 h=>
 mLd 0 (eSl (eI .i64)) h4 <|
 mIyf 0 (eSl (eI .i64)) h4 <|
 Adx 0 (eSl (eI .i64)) a1 h4 <|
 mIy 0 (eSl (eI .i64)) h fun a5 h6 h=>
 mSto 0 (eSl (eI .i64)) a3 h6 <|
 mFin 9 h
end q8_
namespace q1_
noncomputable def B:Code:=(Tryz.f127.body).getD .skip
def W:List Nat:=[0,1,2,3,4,10,11,12,47,65,70,1000000]
def res (r:Int×List (List Int)):D×List D:=(.lit (.int .i64 r.1),[.own (r.2.map (eSl (eI .i64)))])
def C (x1 x2 x3:Int) (k0_0:List (List Int)) (r:Int×List (List Int)):Prop:=Ret env 127 [.own (k0_0.map (eSl (eI .i64))),.lit (.int .i64 x1),.lit (.int .i64 x2),.lit (.int .i64 x3),.fn 71 []] (res r).1 (res r).2
def L1 (x1 z0 z1:Int) (z2:List (List Int)) (φ:Int×List (List Int)->Prop):Prop:=Pt env 127 W B [1,1,1,0,0] [(0,.alias 1000000 []),(1,.lit (.int .i64 x1)),(4,.fn 71 []),(11,.lit (.int .i64 z0)),(12,.lit (.int .i64 z1)),(1000000,.own (z2.map (eSl (eI .i64))))] (Lv env 127 Tryz.f127 5 res φ)
def L2 (x1 z0 z1:Int) (z2:List (List Int)) (φ:Int×List (List Int)->Prop):Prop:=Pt env 127 W B [1,1,1,0,0,0,0,0,0] [(0,.alias 1000000 []),(1,.lit (.int .i64 x1)),(4,.fn 71 []),(11,.lit (.int .i64 z0)),(12,.lit (.int .i64 z1)),(1000000,.own (z2.map (eSl (eI .i64))))] (Lv env 127 Tryz.f127 5 res φ)
def L3 (x1 z0 z1:Int) (z2:List (List Int)) (φ:Int×List (List Int)->Prop):Prop:=Pt env 127 W B [1,1,1,0,0,0,0,1,0,0] [(0,.alias 1000000 []),(1,.lit (.int .i64 x1)),(4,.fn 71 []),(11,.lit (.int .i64 z0)),(12,.lit (.int .i64 z1)),(1000000,.own (z2.map (eSl (eI .i64))))] (Lv env 127 Tryz.f127 5 res φ)
def L4 (x1 z0 z1:Int) (z2:List (List Int)) (φ:Int×List (List Int)->Prop):Prop:=Pt env 127 W B [1,1,1,0,0,0,0,1,1,0,0] [(0,.alias 1000000 []),(1,.lit (.int .i64 x1)),(4,.fn 71 []),(11,.lit (.int .i64 z0)),(12,.lit (.int .i64 z1)),(1000000,.own (z2.map (eSl (eI .i64))))] (Lv env 127 Tryz.f127 5 res φ)
theorem L1_step (x1 z0 z1:Int) (z2:List (List Int)) (φ:Int×List (List Int)->Prop) (h :
 q1_.L2 x1 z0 z1 z2 φ):L1 x1 z0 z1 z2 φ:=
 mIn <|
 mFin 1 h
theorem L2_step (x1 z0 z1:Int) (z2:List (List Int)) (φ:Int×List (List Int)->Prop) (h :
 (if z0<=z1 then
 ∃ a7,lget z2 x1=some a7 /\
 ∃ a9,lget z2 z0=some a9 /\
 ∃ r11:Int,q30_.C a7 a9 r11 /\
 (if r11<0 then
 q1_.L3 x1 z0 z1 z2 φ
 else
 q1_.L2 x1 ((IntKind.wrap .i64 (z0+1))) z1 z2 φ)
 else
 q1_.L3 x1 z0 z1 z2 φ)):L2 x1 z0 z1 z2 φ:=
 mIn <|
 mAsk 4 h dT dF (fun h=>
 mIy 4 (eSl (eI .i64)) h fun a7 h8 h=>
 mLd 0 (eSl (eI .i64)) h8 <|
 mIy 2 (eSl (eI .i64)) h fun a9 h10 h=>
 mLd 0 (eSl (eI .i64)) h10 <|
 mCal 0 h (fun _ h=>h) fun r11 _ h=>
 mAsk 0 h dT dF (fun h=>
 mFin 5 h) fun h=>
 mFin 10 h) fun h=>
 mFin 17 h
theorem L3_step (x1 z0 z1:Int) (z2:List (List Int)) (φ:Int×List (List Int)->Prop) (h :
 (if z0<=z1 then
 ∃ a12,lget z2 x1=some a12 /\
 ∃ a14,lget z2 z1=some a14 /\
 ∃ r16:Int,q30_.C a12 a14 r16 /\
 (if r16<0 then
 q1_.L3 x1 z0 ((IntKind.wrap .i64 (z1-1))) z2 φ
 else
 q1_.L4 x1 z0 z1 z2 φ)
 else
 q1_.L4 x1 z0 z1 z2 φ)):L3 x1 z0 z1 z2 φ:=
 mIn <|
 mAsk 4 h dT dF (fun h=>
 mIy 4 (eSl (eI .i64)) h fun a12 h13 h=>
 mLd 0 (eSl (eI .i64)) h13 <|
 mIy 2 (eSl (eI .i64)) h fun a14 h15 h=>
 mLd 0 (eSl (eI .i64)) h15 <|
 mCal 0 h (fun _ h=>h) fun r16 _ h=>
 mAsk 0 h dT dF (fun h=>
 mFin 9 h) fun h=>
 mFin 4 h) fun h=>
 mFin 16 h
theorem L4_step (x1 z0 z1:Int) (z2:List (List Int)) (φ:Int×List (List Int)->Prop) (h :
 (if z1<z0 then
 φ ((z0,z2))
 else
 ∃ a17,lget z2 z1=some a17 /\
 ∃ a19,lget z2 z0=some a19 /\
 ∃ a21,lget ((lset z2 z0 a17)) z1=some a21 /\
 q1_.L1 x1 ((IntKind.wrap .i64 (z0+1))) ((IntKind.wrap .i64 (z1-1))) ((lset (lset z2 z0 a17) z1 a19)) φ)):L4 x1 z0 z1 z2 φ:=
 mIn <|
 mAsk 3 h dT dF (fun h=>
 mRet 7 h) fun h=>
 mIy 10 (eSl (eI .i64)) h fun a17 h18 h=>
 mLd 0 (eSl (eI .i64)) h18 <|
 mIy 2 (eSl (eI .i64)) h fun a19 h20 h=>
 mLd 0 (eSl (eI .i64)) h20 <|
 mIyf 0 (eSl (eI .i64)) h20 <|
 Adx 0 (eSl (eI .i64)) a17 h20 <|
 mIy 0 (eSl (eI .i64)) h fun a21 h22 h=>
 mSto 0 (eSl (eI .i64)) a19 h22 <|
 mFin 11 h
theorem enter (x1 x2 x3:Int) (k0_0:List (List Int)) (φ:Int×List (List Int)->Prop) (h :
 ∃ a1,lget k0_0 x3=some a1 /\
 ∃ a3,lget k0_0 x1=some a3 /\
 ∃ a5,lget ((lset k0_0 x1 a1)) x3=some a5 /\
 q1_.L1 x1 ((IntKind.wrap .i64 (x1+1))) ((IntKind.wrap .i64 (x2-1))) ((lset (lset k0_0 x1 a1) x3 a3)) φ):∃ r,φ r/\C x1 x2 x3 k0_0 r:=
 mEnt (fd:=Tryz.f127) (body:=B) (V:=W) (res:=res) <|
 mIy 10 (eSl (eI .i64)) h fun a1 h2 h=>
 mLd 0 (eSl (eI .i64)) h2 <|
 mIy 2 (eSl (eI .i64)) h fun a3 h4 h=>
 mLd 0 (eSl (eI .i64)) h4 <|
 mIyf 0 (eSl (eI .i64)) h4 <|
 Adx 0 (eSl (eI .i64)) a1 h4 <|
 mIy 0 (eSl (eI .i64)) h fun a5 h6 h=>
 mSto 0 (eSl (eI .i64)) a3 h6 <|
 mFin 9 h
end q1_
namespace q5_
noncomputable def B:Code:=(Tryz.f125.body).getD .skip
def W:List Nat:=[0,1,2,3,8,9,15,1000000]
def res (r:List (List Int)):D×List D:=(.tup [],[.own (r.map (eSl (eI .i64)))])
def C (x1 x2:Int) (k0_0 r:List (List Int)):Prop:=Ret env 125 [.own (k0_0.map (eSl (eI .i64))),.lit (.int .i64 x1),.lit (.int .i64 x2),.fn 71 []] (res r).1 (res r).2
def L1 (x1 z0:Int) (k0_0:List (List Int)) (φ:List (List Int)->Prop):Prop:=Pt env 125 W B [1,1,0] [(0,.alias 1000000 []),(8,.lit (.int .i64 x1)),(9,.lit (.int .i64 z0)),(1000000,.own (k0_0.map (eSl (eI .i64))))] (Lv env 125 Tryz.f125 4 res φ)
theorem L1_step (x1 z0:Int) (k0_0:List (List Int)) (φ:List (List Int)->Prop) (h :
 (if x1<z0 then
 ∃ a1,lget k0_0 z0=some a1 /\
 ∃ a3,lget k0_0 x1=some a3 /\
 ∃ a5,lget ((lset k0_0 x1 a1)) z0=some a5 /\
 q5_.L1 ((IntKind.wrap .i64 (x1+1))) ((IntKind.wrap .i64 (z0-1))) ((lset (lset k0_0 x1 a1) z0 a3)) φ
 else
 φ k0_0)):L1 x1 z0 k0_0 φ:=
 mIn <|
 mAsk 4 h dT dF (fun h=>
 mIy 10 (eSl (eI .i64)) h fun a1 h2 h=>
 mLd 0 (eSl (eI .i64)) h2 <|
 mIy 2 (eSl (eI .i64)) h fun a3 h4 h=>
 mLd 0 (eSl (eI .i64)) h4 <|
 mIyf 0 (eSl (eI .i64)) h4 <|
 Adx 0 (eSl (eI .i64)) a1 h4 <|
 mIy 0 (eSl (eI .i64)) h fun a5 h6 h=>
 mSto 0 (eSl (eI .i64)) a3 h6 <|
 mFin 11 h) fun h=>
 mRet 2 h
theorem enter (x1 x2:Int) (k0_0:List (List Int)) (φ:List (List Int)->Prop) (h :
 q5_.L1 x1 ((IntKind.wrap .i64 (x2-1))) k0_0 φ):∃ r,φ r/\C x1 x2 k0_0 r:=
 mEnt (fd:=Tryz.f125) (body:=B) (V:=W) (res:=res) <|
 mFin 9 h
end q5_
namespace q15_
noncomputable def B:Code:=(Tryz.f156.body).getD .skip
def W:List Nat:=[0,1,2,3,4,10,11,22,1000003]
def res (r:Int×Int×Int):D×List D:=(.tup [.lit (.int .i64 r.1),.lit (.int .i64 r.2.1)],[.box [.lit (.int .i64 r.2.2)]])
def C (x0:List (List Int)) (x1 x2 k3_0:Int) (r:Int×Int×Int):Prop:=Ret env 156 [.sl (x0.map (eSl (eI .i64))),.lit (.int .i64 x1),.lit (.int .i64 x2),.box [.lit (.int .i64 k3_0)],.fn 71 []] (res r).1 (res r).2
theorem enter (x0:List (List Int)) (x1 x2 k3_0:Int) (φ:Int×Int×Int->Prop) (h :
 ∃ a1,lget x0 x2=some a1 /\
 ∃ a3,lget x0 x1=some a3 /\
 ∃ r5:Int,q30_.C a1 a3 r5 /\
 (if r5<0 then
 φ ((x2,x1,(IntKind.wrap .i64 (k3_0+1))))
 else
 φ ((x1,x2,k3_0)))):∃ r,φ r/\C x0 x1 x2 k3_0 r:=
 mEnt (fd:=Tryz.f156) (body:=B) (V:=W) (res:=res) <|
 mIx 8 (eSl (eI .i64)) h fun a1 h2 h=>
 mIx 3 (eSl (eI .i64)) h fun a3 h4 h=>
 mCal 1 h (fun _ h=>h) fun r5 _ h=>
 mAsk 0 h dT dF (fun h=>
 mRet 16 h) fun h=>
 mRet 9 h
end q15_
namespace q16_
noncomputable def B:Code:=(Tryz.f143.body).getD .skip
def W:List Nat:=[0,1,2,3,4,5,12,1000004]
def res (r:Int×Int):D×List D:=(.lit (.int .i64 r.1),[.box [.lit (.int .i64 r.2)]])
def C (x0:List (List Int)) (x1 x2:Int) (x3 k4_0:Int) (r:Int×Int):Prop:=Ret env 143 [.sl (x0.map (eSl (eI .i64))),.lit (.int .i64 x1),.lit (.int .i64 x2),.lit (.int .i64 x3),.box [.lit (.int .i64 k4_0)],.fn 71 []] (res r).1 (res r).2
theorem enter (x0:List (List Int)) (x1 x2:Int) (x3 k4_0:Int) (φ:Int×Int->Prop) (h :
 ∃ r1:Int×Int×Int,q15_.C x0 x1 x2 k4_0 r1 /\
 ∃ r2:Int×Int×Int,q15_.C x0 r1.2.1 x3 r1.2.2 r2 /\
 ∃ r3:Int×Int×Int,q15_.C x0 r1.1 r2.1 r2.2.2 r3 /\
 φ ((r3.2.1,r3.2.2))):∃ r,φ r/\C x0 x1 x2 x3 k4_0 r:=
 mEnt (fd:=Tryz.f143) (body:=B) (V:=W) (res:=res) <|
 mCal 9 h (fun _ h=>h) (hf:=(fun _=>Ab7)) fun r1 _ h=>
 mCal 12 h (fun _ h=>h) (hf:=(fun _=>Ab7)) fun r2 _ h=>
 mCal 12 h (fun _ h=>h) (hf:=(fun _=>Ab7)) fun r3 _ h=>
 mRet 10 h
end q16_
namespace q2_
noncomputable def B:Code:=(Tryz.f142.body).getD .skip
def W:List Nat:=[0,1,2,3,8,1000002]
def res (r:Int×Int):D×List D:=(.lit (.int .i64 r.1),[.box [.lit (.int .i64 r.2)]])
def C (x0:List (List Int)) (x1 k2_0:Int) (r:Int×Int):Prop:=Ret env 142 [.sl (x0.map (eSl (eI .i64))),.lit (.int .i64 x1),.box [.lit (.int .i64 k2_0)],.fn 71 []] (res r).1 (res r).2
theorem enter (x0:List (List Int)) (x1 k2_0:Int) (φ:Int×Int->Prop) (h :
 ∃ r1:Int×Int,q16_.C x0 ((IntKind.wrap .i64 (x1-1))) x1 ((IntKind.wrap .i64 (x1+1))) k2_0 r1 /\
 φ ((r1.1,r1.2))):∃ r,φ r/\C x0 x1 k2_0 r:=
 mEnt (fd:=Tryz.f142) (body:=B) (V:=W) (res:=res) <|
 mCal 12 h (fun _ h=>h) fun r1 _ h=>
 mRet 2 h
end q2_
namespace q6_
noncomputable def B:Code:=(Tryz.f124.body).getD .skip
def W:List Nat:=[0,1,2,3,8,9,10,11,12,13,14,34,36,55,57,60]
def res (r:Int×Int):D×List D:=(.tup [.lit (.int .i64 r.1),.lit (.int .i64 r.2)],[])
def C (x0:List (List Int)) (x1 x2:Int) (r:Int×Int):Prop:=Ret env 124 [.sl (x0.map (eSl (eI .i64))),.lit (.int .i64 x1),.lit (.int .i64 x2),.fn 71 []] (res r).1 (res r).2
def L1 (x0:List (List Int)) (z0 z1:Int) (z2 z3:Int) (φ:Int×Int->Prop):Prop:=Pt env 124 W B [1,1,1,1,1,1,0,1,0,1] [(0,.sl (x0.map (eSl (eI .i64)))),(3,.fn 71 []),(11,.box [.lit (.int .i64 z0)]),(12,.lit (.int .i64 z1)),(13,.lit (.int .i64 z2)),(14,.lit (.int .i64 z3))] (Lv env 124 Tryz.f124 4 res φ)
def L2 (z0 z1:Int) (φ:Int×Int->Prop):Prop:=Pt env 124 W B [1,1,1,1,1,1,1,0] [(11,.box [.lit (.int .i64 z0)]),(13,.lit (.int .i64 z1))] (Lv env 124 Tryz.f124 4 res φ)
theorem L1_step (x0:List (List Int)) (z0 z1:Int) (z2 z3:Int) (φ:Int×Int->Prop) (h :
 ∃ r4:Int×Int,q16_.C x0 z1 z2 z3 z0 r4 /\
 q6_.L2 r4.2 r4.1 φ):L1 x0 z0 z1 z2 z3 φ:=
 mIn <|
 mCal 6 h (fun _ h=>h) fun r4 _ h=>
 mFin 2 h
theorem L2_step (z0 z1:Int) (φ:Int×Int->Prop) (h :
 (if z0=0 then
 φ ((z1,1))
 else
 (if z0=12 then
 φ ((z1,2))
 else
 φ ((z1,0))))):L2 z0 z1 φ:=
 mIn <|
 mCon 7 h Aax Aaw (fun h=>
 mRet 5 h) fun h=>
 mCon 4 h Aax Aaw (fun h=>
 mRet 5 h) fun h=>
 mRet 5 h
theorem enter (x0:List (List Int)) (x1 x2:Int) (φ:Int×Int->Prop) (h :
 (if 8<=(IntKind.wrap .i64 (x2-x1)) then
 (if 50<=(IntKind.wrap .i64 (x2-x1)) then
 ∃ r1:Int×Int,q2_.C x0 ((IntKind.wrap .i64 (x1+(IntKind.wrap .i64 ((IntKind.wrap .i64 (Int.tdiv (IntKind.wrap .i64 (x2-x1)) 4))*1))))) 0 r1 /\
 ∃ r2:Int×Int,q2_.C x0 ((IntKind.wrap .i64 (x1+(IntKind.wrap .i64 ((IntKind.wrap .i64 (Int.tdiv (IntKind.wrap .i64 (x2-x1)) 4))*2))))) r1.2 r2 /\
 ∃ r3:Int×Int,q2_.C x0 ((IntKind.wrap .i64 (x1+(IntKind.wrap .i64 ((IntKind.wrap .i64 (Int.tdiv (IntKind.wrap .i64 (x2-x1)) 4))*3))))) r2.2 r3 /\
 q6_.L1 x0 r3.2 r1.1 r2.1 r3.1 φ
 else
 q6_.L1 x0 0 ((IntKind.wrap .i64 (x1+(IntKind.wrap .i64 ((IntKind.wrap .i64 (Int.tdiv (IntKind.wrap .i64 (x2-x1)) 4))*1))))) ((IntKind.wrap .i64 (x1+(IntKind.wrap .i64 ((IntKind.wrap .i64 (Int.tdiv (IntKind.wrap .i64 (x2-x1)) 4))*2))))) ((IntKind.wrap .i64 (x1+(IntKind.wrap .i64 ((IntKind.wrap .i64 (Int.tdiv (IntKind.wrap .i64 (x2-x1)) 4))*3))))) φ)
 else
 q6_.L2 0 ((IntKind.wrap .i64 (x1+(IntKind.wrap .i64 ((IntKind.wrap .i64 (Int.tdiv (IntKind.wrap .i64 (x2-x1)) 4))*2))))) φ)):∃ r,φ r/\C x0 x1 x2 r:=
 mEnt (fd:=Tryz.f124) (body:=B) (V:=W) (res:=res) <|
 mAsk 39 h dT dF (fun h=>
 mAsk 4 h dT dF (fun h=>
 mCal 6 h (fun _ h=>h) fun r1 _ h=>
 mCal 6 h (fun _ h=>h) fun r2 _ h=>
 mCal 6 h (fun _ h=>h) fun r3 _ h=>
 mFin 2 h) fun h=>
 mFin 3 h) fun h=>
 mFin 3 h
end q6_
namespace q63_
noncomputable def B:Code:=(Tryz.f120.body).getD .skip
def W:List Nat:=[0,2,4,8,14]
def res (r:Int):D×List D:=(.lit (.int .i64 r),[])
def C (x0 r:Int):Prop:=Ret env 120 [.lit (.int .u64 x0)] (res r).1 (res r).2
def L3 (z0 z1:Int) (φ:Int->Prop):Prop:=Pt env 120 W B [1,1,0,0] [(0,.lit (.int .u64 z0)),(2,.lit (.int .i64 z1))] (Lv env 120 Tryz.f120 1 res φ)
def L2 (z0 z1:Int) (φ:Int->Prop):Prop:=Pt env 120 W B [1,1,1,0,0] [(0,.lit (.int .u64 z0)),(2,.lit (.int .i64 z1))] (Lv env 120 Tryz.f120 1 res φ)
def L1 (z0 z1:Int) (φ:Int->Prop):Prop:=Pt env 120 W B [1,1,1,1,0] [(0,.lit (.int .u64 z0)),(2,.lit (.int .i64 z1))] (Lv env 120 Tryz.f120 1 res φ)
theorem L3_step (z0 z1:Int) (φ:Int->Prop) (h :
 (if 65536<=z0 then
 q63_.L2 ((shrw .u64 z0 16)) ((IntKind.wrap .i64 (z1+16))) φ
 else
 q63_.L2 z0 z1 φ)):L3 z0 z1 φ:=
 mIn <|
 mAsk 2 h dT dF (fun h=>
 mFin 12 h) fun h=>
 mFin 3 h
theorem L2_step (z0 z1:Int) (φ:Int->Prop) (h :
 (if 256<=z0 then
 q63_.L1 ((shrw .u64 z0 8)) ((IntKind.wrap .i64 (z1+8))) φ
 else
 q63_.L1 z0 z1 φ)):L2 z0 z1 φ:=
 mIn <|
 mAsk 2 h dT dF (fun h=>
 mFin 12 h) fun h=>
 mFin 3 h
theorem L1_step (z0 z1:Int) (φ:Int->Prop) (h :
 ∃ b1,((0:Int)<=(IntKind.wrap .u8 z0)/\((⟨#[0,1,2,2,3,3,3,3,4,4,4,4,4,4,4,4,5,5,5,5,5,5,5,5,5,5,5,5,5,5,5,5,6,6,6,6,6,6,6,6,6,6,6,6,6,6,6,6,6,6,6,6,6,6,6,6,6,6,6,6,6,6,6,6,7,7,7,7,7,7,7,7,7,7,7,7,7,7,7,7,7,7,7,7,7,7,7,7,7,7,7,7,7,7,7,7,7,7,7,7,7,7,7,7,7,7,7,7,7,7,7,7,7,7,7,7,7,7,7,7,7,7,7,7,7,7,7,7,8,8,8,8,8,8,8,8,8,8,8,8,8,8,8,8,8,8,8,8,8,8,8,8,8,8,8,8,8,8,8,8,8,8,8,8,8,8,8,8,8,8,8,8,8,8,8,8,8,8,8,8,8,8,8,8,8,8,8,8,8,8,8,8,8,8,8,8,8,8,8,8,8,8,8,8,8,8,8,8,8,8,8,8,8,8,8,8,8,8,8,8,8,8,8,8,8,8,8,8,8,8,8,8,8,8,8,8,8,8,8,8,8,8,8,8,8,8,8,8,8,8,8,8,8,8,8,8]⟩:ByteArray))[((IntKind.wrap .u8 z0)).toNat]? = some b1) /\
 φ ((IntKind.wrap .i64 (z1+(IntKind.wrap .i64 (u8i b1)))))):L1 z0 z1 φ:=
 mIn <|
 mSt 4 h fun b1 h=>
 mRet 4 h
theorem enter (x0:Int) (φ:Int->Prop) (h :
 (if 4294967296<=x0 then
 q63_.L3 ((shrw .u64 x0 32)) 32 φ
 else
 q63_.L3 x0 0 φ)):∃ r,φ r/\C x0 r:=
 mEnt (fd:=Tryz.f120) (body:=B) (V:=W) (res:=res) <|
 mAsk 5 h dT dF (fun h=>
 mFin 10 h) fun h=>
 mFin 3 h
end q63_
namespace q78_
noncomputable def B:Code:=(Tryz.f92.body).getD .skip
def W:List Nat:=[0,2]
def res (r:Int):D×List D:=(.lit (.int .i64 r),[])
def C (x0 r:Int):Prop:=Ret env 92 [.lit (.int .u64 x0)] (res r).1 (res r).2
theorem enter (x0:Int) (φ:Int->Prop) (h :
 ∃ r1:Int,q63_.C x0 r1 /\
 φ r1):∃ r,φ r/\C x0 r:=
 mEnt (fd:=Tryz.f92) (body:=B) (V:=W) (res:=res) <|
 mCal 7 h (fun _ h=>h) fun r1 _ h=>
 mRet 2 h
end q78_
namespace q37_
noncomputable def B:Code:=(Tryz.f137.body).getD .skip
def W:List Nat:=[0,2]
def res (r:Int):D×List D:=(.lit (.int .u64 r),[])
def C (x0 r:Int):Prop:=Ret env 137 [.lit (.int .i64 x0)] (res r).1 (res r).2
theorem enter (x0:Int) (φ:Int->Prop) (h :
 ∃ r1:Int,q78_.C ((IntKind.wrap .u64 x0)) r1 /\
 0<=r1 /\
 φ ((shlw .u64 1 r1))):∃ r,φ r/\C x0 r:=
 mEnt (fd:=Tryz.f137) (body:=B) (V:=W) (res:=res) <|
 mCal 6 h (fun _ h=>h) fun r1 _ h=>
 h.elim fun h2 h=>
 mBi 0 (Bby (t:=169) (q:=.u64) (q':=.i64) (i1:=1) h2) <|
 mRet 2 h
end q37_
namespace q41_
noncomputable def B:Code:=(Tryz.f138.body).getD .skip
def W:List Nat:=[0,2,1000000]
def res (r:Int×Int):D×List D:=(.lit (.int .u64 r.1),[.box [.lit (.int .u64 r.2)]])
def C (k0_0:Int) (r:Int×Int):Prop:=Ret env 138 [.box [.lit (.int .u64 k0_0)]] (res r).1 (res r).2
theorem enter (k0_0:Int) (φ:Int×Int->Prop) (h :
 φ (((bXor .u64 (bXor .u64 (bXor .u64 k0_0 (shlw .u64 k0_0 13)) (shrw .u64 (bXor .u64 k0_0 (shlw .u64 k0_0 13)) 7)) (shlw .u64 (bXor .u64 (bXor .u64 k0_0 (shlw .u64 k0_0 13)) (shrw .u64 (bXor .u64 k0_0 (shlw .u64 k0_0 13)) 7)) 17)),(bXor .u64 (bXor .u64 (bXor .u64 k0_0 (shlw .u64 k0_0 13)) (shrw .u64 (bXor .u64 k0_0 (shlw .u64 k0_0 13)) 7)) (shlw .u64 (bXor .u64 (bXor .u64 k0_0 (shlw .u64 k0_0 13)) (shrw .u64 (bXor .u64 k0_0 (shlw .u64 k0_0 13)) 7)) 17))))):∃ r,φ r/\C k0_0 r:=
 mEnt (fd:=Tryz.f138) (body:=B) (V:=W) (res:=res) <|
 mRet 45 h
end q41_
namespace q4_
noncomputable def B:Code:=(Tryz.f123.body).getD .skip
def W:List Nat:=[0,1,2,3,8,9,10,11,12,17,35,45,1000000]
def res (r:List (List Int)):D×List D:=(.tup [],[.own (r.map (eSl (eI .i64)))])
def C (x1 x2:Int) (k0_0 r:List (List Int)):Prop:=Ret env 123 [.own (k0_0.map (eSl (eI .i64))),.lit (.int .i64 x1),.lit (.int .i64 x2),.fn 71 []] (res r).1 (res r).2
def L1 (x1 z0:Int) (z1 r1 z2:Int) (k0_0:List (List Int)) (φ:List (List Int)->Prop):Prop:=Pt env 123 W B [1,1,0,1,1,1,0] [(0,.alias 1000000 []),(1,.lit (.int .i64 x1)),(8,.lit (.int .i64 z0)),(9,.box [.lit (.int .u64 z1)]),(10,.lit (.int .u64 r1)),(11,.lit (.int .i64 z2)),(1000000,.own (k0_0.map (eSl (eI .i64))))] (Lv env 123 Tryz.f123 4 res φ)
def L2 (x1 z0:Int) (r2:Int×Int) (r1 z1 z2:Int) (k0_0:List (List Int)) (φ:List (List Int)->Prop):Prop:=Pt env 123 W B [1,1,0,1,1,1,0,0,1,0,0,1,1] [(0,.alias 1000000 []),(1,.lit (.int .i64 x1)),(8,.lit (.int .i64 z0)),(9,.box [.lit (.int .u64 r2.2)]),(10,.lit (.int .u64 r1)),(11,.lit (.int .i64 z1)),(12,.lit (.int .i64 z2)),(1000000,.own (k0_0.map (eSl (eI .i64))))] (Lv env 123 Tryz.f123 4 res φ)
theorem L1_step (x1 z0:Int) (z1 r1 z2:Int) (k0_0:List (List Int)) (φ:List (List Int)->Prop) (h :
 (if z2<=(IntKind.wrap .i64 ((IntKind.wrap .i64 (x1+(IntKind.wrap .i64 ((IntKind.wrap .i64 (Int.tdiv z0 4))*2))))+1)) then
 ∃ r2:Int×Int,q41_.C z1 r2 /\
 (if z0<=(IntKind.wrap .i64 (bAnd .u64 r2.1 (IntKind.wrap .u64 (r1-1)))) then
 q4_.L2 x1 z0 r2 r1 z2 ((IntKind.wrap .i64 ((IntKind.wrap .i64 (bAnd .u64 r2.1 (IntKind.wrap .u64 (r1-1))))-z0))) k0_0 φ
 else
 q4_.L2 x1 z0 r2 r1 z2 ((IntKind.wrap .i64 (bAnd .u64 r2.1 (IntKind.wrap .u64 (r1-1))))) k0_0 φ)
 else
 φ k0_0)):L1 x1 z0 z1 r1 z2 k0_0 φ:=
 mIn <|
 mAsk 9 h dT dF (fun h=>
 mCal 4 h (fun _ h=>h) fun r2 _ h=>
 mAsk 9 h dT dF (fun h=>
 mFin 8 h) fun h=>
 mFin 3 h) fun h=>
 mRet 2 h
theorem L2_step (x1 z0:Int) (r2:Int×Int) (r1 z1 z2:Int) (k0_0:List (List Int)) (φ:List (List Int)->Prop) (h :
 ∃ a3,lget k0_0 ((IntKind.wrap .i64 (x1+z2)))=some a3 /\
 ∃ a5,lget k0_0 z1=some a5 /\
 ∃ a7,lget ((lset k0_0 z1 a3)) ((IntKind.wrap .i64 (x1+z2)))=some a7 /\
 q4_.L1 x1 z0 r2.2 r1 ((IntKind.wrap .i64 (z1+1))) ((lset (lset k0_0 z1 a3) (IntKind.wrap .i64 (x1+z2)) a5)) φ):L2 x1 z0 r2 r1 z1 z2 k0_0 φ:=
 mIn <|
 mIy 11 (eSl (eI .i64)) h fun a3 h4 h=>
 mLd 0 (eSl (eI .i64)) h4 <|
 mIy 2 (eSl (eI .i64)) h fun a5 h6 h=>
 mLd 0 (eSl (eI .i64)) h6 <|
 mIyf 0 (eSl (eI .i64)) h6 <|
 Adx 0 (eSl (eI .i64)) a3 h6 <|
 mIy 0 (eSl (eI .i64)) h fun a7 h8 h=>
 mSto 0 (eSl (eI .i64)) a5 h8 <|
 mFin 6 h
theorem enter (x1 x2:Int) (k0_0:List (List Int)) (φ:List (List Int)->Prop) (h :
 (if 8<=(IntKind.wrap .i64 (x2-x1)) then
 ∃ r1:Int,q37_.C ((IntKind.wrap .i64 (x2-x1))) r1 /\
 q4_.L1 x1 ((IntKind.wrap .i64 (x2-x1))) ((IntKind.wrap .u64 (IntKind.wrap .i64 (x2-x1)))) r1 ((IntKind.wrap .i64 ((IntKind.wrap .i64 (x1+(IntKind.wrap .i64 ((IntKind.wrap .i64 (Int.tdiv (IntKind.wrap .i64 (x2-x1)) 4))*2))))-1))) k0_0 φ
 else
 φ k0_0)):∃ r,φ r/\C x1 x2 k0_0 r:=
 mEnt (fd:=Tryz.f123) (body:=B) (V:=W) (res:=res) <|
 mAsk 8 h dT dF (fun h=>
 mCal 10 h (fun _ h=>h) fun r1 _ h=>
 mFin 11 h) fun h=>
 mRet 2 h
end q4_
namespace q14_
noncomputable def B:Code:=(Tryz.f93.body).getD .skip
def W:List Nat:=[0,1,2,3,4,10,11,12,13,14,15,16,17,18,19,20,25,32,39,56,75,80,97,125,1000000]
def res (r:List (List Int)):D×List D:=(.tup [],[.own (r.map (eSl (eI .i64)))])
def C (x1 x2 x3:Int) (k0_0 r:List (List Int)):Prop:=Ret env 93 [.own (k0_0.map (eSl (eI .i64))),.lit (.int .i64 x1),.lit (.int .i64 x2),.lit (.int .i64 x3),.fn 71 []] (res r).1 (res r).2
def L1 (x1 x2 x3:Int) (z0 z1:Bool) (k0_0:List (List Int)) (φ:List (List Int)->Prop):Prop:=Pt env 93 W B [1,1,0] [(0,.alias 1000000 []),(1,.lit (.int .i64 x1)),(2,.lit (.int .i64 x2)),(3,.lit (.int .i64 x3)),(4,.fn 71 []),(10,.lit (.bool z0)),(11,.lit (.bool z1)),(1000000,.own (k0_0.map (eSl (eI .i64))))] (Lv env 93 Tryz.f93 5 res φ)
def L5 (x1 x2 x3:Int) (z0 z1:Bool) (k0_0:List (List Int)) (φ:List (List Int)->Prop):Prop:=Pt env 93 W B [1,1,0,0,0,1,1,1,1,0] [(0,.alias 1000000 []),(1,.lit (.int .i64 x1)),(2,.lit (.int .i64 x2)),(3,.lit (.int .i64 x3)),(4,.fn 71 []),(10,.lit (.bool z0)),(11,.lit (.bool z1)),(12,.lit (.int .i64 ((IntKind.wrap .i64 (x2-x1))))),(1000000,.own (k0_0.map (eSl (eI .i64))))] (Lv env 93 Tryz.f93 5 res φ)
def L4 (x1 x2 x3:Int) (z0 z1:Bool) (z2 z3:Int) (r79:List (List Int)) (φ:List (List Int)->Prop):Prop:=Pt env 93 W B [1,1,0,0,0,1,1,1,1,1,1,0,0] [(0,.alias 1000000 []),(1,.lit (.int .i64 x1)),(2,.lit (.int .i64 x2)),(3,.lit (.int .i64 x3)),(4,.fn 71 []),(10,.lit (.bool z0)),(11,.lit (.bool z1)),(12,.lit (.int .i64 ((IntKind.wrap .i64 (x2-x1))))),(13,.lit (.int .i64 z2)),(14,.lit (.int .i64 z3)),(1000000,.own (r79.map (eSl (eI .i64))))] (Lv env 93 Tryz.f93 5 res φ)
def L3 (x1 x2 x3:Int) (z0 z1:Bool) (z2:Int) (z3:List (List Int)) (φ:List (List Int)->Prop):Prop:=Pt env 93 W B [1,1,0,0,0,1,1,1,1,1,1,1,0,0] [(0,.alias 1000000 []),(1,.lit (.int .i64 x1)),(2,.lit (.int .i64 x2)),(3,.lit (.int .i64 x3)),(4,.fn 71 []),(10,.lit (.bool z0)),(11,.lit (.bool z1)),(12,.lit (.int .i64 ((IntKind.wrap .i64 (x2-x1))))),(13,.lit (.int .i64 z2)),(1000000,.own (z3.map (eSl (eI .i64))))] (Lv env 93 Tryz.f93 5 res φ)
def L2 (x1 x2:Int) (x3 z0:Int) (z1:List (List Int)) (φ:List (List Int)->Prop):Prop:=Pt env 93 W B [1,1,0,0,0,1,1,1,1,1,1,1,1,0] [(0,.alias 1000000 []),(1,.lit (.int .i64 x1)),(2,.lit (.int .i64 x2)),(3,.lit (.int .i64 x3)),(4,.fn 71 []),(12,.lit (.int .i64 ((IntKind.wrap .i64 (x2-x1))))),(13,.lit (.int .i64 z0)),(1000000,.own (z1.map (eSl (eI .i64))))] (Lv env 93 Tryz.f93 5 res φ)
theorem L1_step (x1 x2 x3:Int) (z0 z1:Bool) (k0_0:List (List Int)) (φ:List (List Int)->Prop) (h :
 (if (IntKind.wrap .i64 (x2-x1))<=12 then
 ∃ r100:List (List Int),q3_.C x1 x2 k0_0 r100 /\
 φ r100
 else
 (if x3=0 then
 ∃ r101:List (List Int),q12_.C x1 x2 k0_0 r101 /\
 φ r101
 else
 (if z0=true then
 q14_.L5 x1 x2 x3 z0 z1 k0_0 φ
 else
 ∃ r102:List (List Int),q4_.C x1 x2 k0_0 r102 /\
 q14_.L5 x1 x2 ((IntKind.wrap .i64 (x3-1))) z0 z1 r102 φ)))):L1 x1 x2 x3 z0 z1 k0_0 φ:=
 mIn <|
 mAsk 9 h dT dF (fun h=>
 mCal 7 h (fun _ h=>h) (hf:=(fun _=>Ab7)) fun r100 _ h=>
 mRet 1 h) fun h=>
 mAsk 5 h Aax Aaw (fun h=>
 mCal 7 h (fun _ h=>h) (hf:=(fun _=>Ab7)) fun r101 _ h=>
 mRet 1 h) fun h=>
 mAsk 4 h id fls (fun h=>
 mFin 4 h) fun h=>
 mCal 8 h (fun _ h=>h) (hf:=(fun _=>Ab7)) fun r102 _ h=>
 mFin 6 h
theorem L5_step (x1 x2 x3:Int) (z0 z1:Bool) (k0_0:List (List Int)) (φ:List (List Int)->Prop) (h :
 ∃ r103:Int×Int,q6_.C k0_0 x1 x2 r103 /\
 (if r103.2=2 then
 ∃ r104:List (List Int),q5_.C x1 x2 k0_0 r104 /\
 q14_.L4 x1 x2 x3 z0 z1 ((IntKind.wrap .i64 ((IntKind.wrap .i64 (x2-1))-(IntKind.wrap .i64 (r103.1-x1))))) 1 r104 φ
 else
 q14_.L4 x1 x2 x3 z0 z1 r103.1 r103.2 k0_0 φ)):L5 x1 x2 x3 z0 z1 k0_0 φ:=
 mIn <|
 mCal 5 h (fun _ h=>h) (hr:=by exact (Akn (Anz (s:=1000000) (ps:=[]) (l:=k0_0) (e:=(eSl (eI .i64))) (e':=(eSl (eI .i64))) (fun _=>rfl) (by kernel_rfl)) (pr_k (pr_k (pr_k Aqp))))) (hf:=(fun _=>Ac4 (Afx (Aa1 rfl (Aa1 rfl Aag))) rfl)) fun r103 _ h=>
 mAsk 8 h Aax Aaw (fun h=>
 mCal 7 h (fun _ h=>h) (hf:=(fun _=>Ab7)) fun r104 _ h=>
 mFin 13 h) fun h=>
 mFin 3 h
theorem L4_step (x1 x2 x3:Int) (z0 z1:Bool) (z2 z3:Int) (r79:List (List Int)) (φ:List (List Int)->Prop) (h :
 (if z0=true then
 (if z1=true then
 (if z3=1 then
 ∃ r105:Bool×List (List Int),q0_.C x1 x2 r79 r105 /\
 (if r105.1=true then
 φ r105.2
 else
 q14_.L3 x1 x2 x3 z0 z1 z2 r105.2 φ)
 else
 q14_.L3 x1 x2 x3 z0 z1 z2 r79 φ)
 else
 q14_.L3 x1 x2 x3 z0 z1 z2 r79 φ)
 else
 q14_.L3 x1 x2 x3 z0 z1 z2 r79 φ)):L4 x1 x2 x3 z0 z1 z2 z3 r79 φ:=
 mIn <|
 mAsk 1 h id fls (fun h=>
 mAsk 1 h id fls (fun h=>
 mAsk 3 h Aax Aaw (fun h=>
 mCal 8 h (fun _ h=>h) (hf:=(fun _=>Ab7)) fun r105 _ h=>
 mCon 1 h id fls (fun h=>
 mRet 0 h) fun h=>
 mFin 1 h) fun h=>
 mFin 4 h) fun h=>
 mFin 8 h) fun h=>
 mFin 10 h
theorem L3_step (x1 x2 x3:Int) (z0 z1:Bool) (z2:Int) (z3:List (List Int)) (φ:List (List Int)->Prop) (h :
 (if 0<x1 then
 ∃ a106,lget z3 ((IntKind.wrap .i64 (x1-1)))=some a106 /\
 ∃ a108,lget z3 z2=some a108 /\
 ∃ r110:Int,q30_.C a106 a108 r110 /\
 (if r110<0 then
 q14_.L2 x1 x2 x3 z2 z3 φ
 else
 ∃ r111:Int×List (List Int),q1_.C x1 x2 z2 z3 r111 /\
 q14_.L1 r111.1 x2 x3 z0 z1 r111.2 φ)
 else
 q14_.L2 x1 x2 x3 z2 z3 φ)):L3 x1 x2 x3 z0 z1 z2 z3 φ:=
 mIn <|
 mAsk 2 h dT dF (fun h=>
 mIy 5 (eSl (eI .i64)) h fun a106 h107 h=>
 mLd 0 (eSl (eI .i64)) h107 <|
 mIy 2 (eSl (eI .i64)) h fun a108 h109 h=>
 mLd 0 (eSl (eI .i64)) h109 <|
 mCal 0 h (fun _ h=>h) fun r110 _ h=>
 mAsk 0 h dT dF (fun h=>
 mFin 5 h) fun h=>
 mCal 10 h (fun _ h=>h) (hf:=(fun _=>Ab7)) fun r111 _ h=>
 mFin 7 h) fun h=>
 mFin 18 h
theorem L2_step (x1 x2:Int) (x3 z0:Int) (z1:List (List Int)) (φ:List (List Int)->Prop) (h :
 ∃ r112:Int×Bool×List (List Int),q8_.C x1 x2 z0 z1 r112 /\
 (if (IntKind.wrap .i64 (r112.1-x1))<(IntKind.wrap .i64 (x2-r112.1)) then
 ∃ r113:List (List Int),q14_.C x1 r112.1 x3 r112.2.2 r113 /\
 q14_.L1 ((IntKind.wrap .i64 (r112.1+1))) x2 x3 ((decide ((IntKind.wrap .i64 (Int.tdiv (IntKind.wrap .i64 (x2-x1)) 8))<=(IntKind.wrap .i64 (r112.1-x1))))) r112.2.1 r113 φ
 else
 ∃ r114:List (List Int),q14_.C ((IntKind.wrap .i64 (r112.1+1))) x2 x3 r112.2.2 r114 /\
 q14_.L1 x1 r112.1 x3 ((decide ((IntKind.wrap .i64 (Int.tdiv (IntKind.wrap .i64 (x2-x1)) 8))<=(IntKind.wrap .i64 (x2-r112.1))))) r112.2.1 r114 φ)):L2 x1 x2 x3 z0 z1 φ:=
 mIn <|
 mCal 6 h (fun _ h=>h) (hf:=(fun _=>Ab7)) fun r112 _ h=>
 mAsk 28 h dT dF (fun h=>
 mCal 14 h (fun _ h=>h) (hf:=(fun _=>Ab7)) fun r113 _ h=>
 mFin 6 h) fun h=>
 mCal 15 h (fun _ h=>h) (hf:=(fun _=>Ab7)) fun r114 _ h=>
 mFin 5 h
theorem enter (x1 x2 x3:Int) (k0_0:List (List Int)) (φ:List (List Int)->Prop) (h :
 q14_.L1 x1 x2 x3 true true k0_0 φ):∃ r,φ r/\C x1 x2 x3 k0_0 r:=
 mEnt (fd:=Tryz.f93) (body:=B) (V:=W) (res:=res) <|
 mFin 6 h
end q14_
namespace q9_
noncomputable def B:Code:=(Tryz.f70.body).getD .skip
def W:List Nat:=[0,1,4,1000000]
def res (r:List (List Int)):D×List D:=(.tup [],[.own (r.map (eSl (eI .i64)))])
def C (k0_0 r:List (List Int)):Prop:=Ret env 70 [.own (k0_0.map (eSl (eI .i64))),.fn 71 []] (res r).1 (res r).2
theorem enter (k0_0:List (List Int)) (φ:List (List Int)->Prop) (h :
 ∃ r1:Int,q78_.C ((IntKind.wrap .u64 (k0_0.length:Int))) r1 /\
 ∃ r2:List (List Int),q14_.C 0 ((k0_0.length:Int)) r1 k0_0 r2 /\
 φ r2):∃ r,φ r/\C k0_0 r:=
 mEnt (fd:=Tryz.f70) (body:=B) (V:=W) (res:=res) <|
 mLen 2 (eSl (eI .i64)) k0_0 <|
 mCal 7 h (fun _ h=>h) fun r1 _ h=>
 mCal 1 h (fun _ h=>h) (hf:=(fun _=>Ab7)) fun r2 _ h=>
 mRet 0 h
end q9_
namespace q31_
noncomputable def B:Code:=(Tryz.f78.body).getD .skip
def W:List Nat:=[0,1,4,5,7,8,9,16]
def res (r:Int):D×List D:=(.lit (.int .i64 r),[])
def C (x0:List ByteArray) (x1:ByteArray) (r:Int):Prop:=Ret env 78 [.sl (x0.map eS),.lit (.string x1)] (res r).1 (res r).2
def L1 (x0:List ByteArray) (x1:ByteArray) (z0:Int) (φ:Int->Prop):Prop:=Pt env 78 W B [1,0,1,0] [(0,.sl (x0.map eS)),(1,.lit (.string x1)),(7,.lit (.int .i64 ((x0.length:Int)))),(8,.lit (.int .i64 z0))] (Lv env 78 Tryz.f78 2 res φ)
theorem L1_step (x0:List ByteArray) (x1:ByteArray) (z0:Int) (φ:Int->Prop) (h :
 (if z0<(x0.length:Int) then
 ∃ a1,lget x0 z0=some a1 /\
 (if x1.toList=a1.toList then
 φ z0
 else
 q31_.L1 x0 x1 ((IntKind.wrap .i64 (z0+1))) φ)
 else
 φ ((-1)))):L1 x0 x1 z0 φ:=
 mIn <|
 mAsk 2 h dT dF (fun h=>
 mIx 11 eS h fun a1 h2 h=>
 mAsk 1 h Ay7 Ay6 (fun h=>
 mRet 6 h) fun h=>
 mFin 7 h) fun h=>
 mRet 6 h
theorem enter (x0:List ByteArray) (x1:ByteArray) (φ:Int->Prop) (h :
 q31_.L1 x0 x1 0 φ):∃ r,φ r/\C x0 x1 r:=
 mEnt (fd:=Tryz.f78) (body:=B) (V:=W) (res:=res) <|
 mLen 5 eS x0 <|
 mFin 2 h
end q31_
namespace q28_
noncomputable def B:Code:=(Tryz.f56.body).getD .skip
def W:List Nat:=[0,1,4]
def res (r:Bool):D×List D:=(.lit (.bool r),[])
def C (x0:List ByteArray) (x1:ByteArray) (r:Bool):Prop:=Ret env 56 [.sl (x0.map eS),.lit (.string x1)] (res r).1 (res r).2
theorem enter (x0:List ByteArray) (x1:ByteArray) (φ:Bool->Prop) (h :
 ∃ r1:Int,q31_.C x0 x1 r1 /\
 φ ((decide (0<=r1)))):∃ r,φ r/\C x0 x1 r:=
 mEnt (fd:=Tryz.f56) (body:=B) (V:=W) (res:=res) <|
 mCal 6 h (fun _ h=>h) fun r1 _ h=>
 mRet 3 h
end q28_
namespace q88_
noncomputable def B:Code:=(Tryz.f55.body).getD .skip
def W:List Nat:=[0,2,3,4,5,16,18,19,20,56]
def res (r:Bool):D×List D:=(.lit (.bool r),[])
def C (x0:ByteArray) (r:Bool):Prop:=Ret env 55 [.lit (.string x0)] (res r).1 (res r).2
def L1 (x0:ByteArray) (z0:Int) (φ:Bool->Prop):Prop:=Pt env 55 W B [1,1,0,1,0] [(0,.lit (.string x0)),(18,.lit (.int .i64 ((Ajb x0)))),(19,.lit (.int .i64 z0))] (Lv env 55 Tryz.f55 1 res φ)
def L2 (x0:ByteArray) (z0 z1:Int) (z2:Bool) (φ:Bool->Prop):Prop:=Pt env 55 W B [1,1,0,1,0,0,1,1,0,0,1,1,1,0] [(0,.lit (.string x0)),(3,.lit (.int .i64 z0)),(4,.lit (.int .u8 z1)),(5,.lit (.bool z2)),(18,.lit (.int .i64 ((Ajb x0)))),(19,.lit (.int .i64 z0))] (Lv env 55 Tryz.f55 1 res φ)
def L3 (x0:ByteArray) (z0:Int) (φ:Bool->Prop):Prop:=Pt env 55 W B [1,1,0,1,0,0,1,1,1] [(0,.lit (.string x0)),(18,.lit (.int .i64 ((Ajb x0)))),(19,.lit (.int .i64 z0))] (Lv env 55 Tryz.f55 1 res φ)
theorem L1_step (x0:ByteArray) (z0:Int) (φ:Bool->Prop) (h :
 (if z0<(Ajb x0) then
 ∃ b1,((0:Int)<=z0/\x0[(z0).toNat]? = some b1) /\
 (if 97<=(u8i b1) then
 (if (u8i b1)<=122 then
 q88_.L2 x0 z0 ((u8i b1)) true φ
 else
 (if 65<=(u8i b1) then
 (if (u8i b1)<=90 then
 q88_.L2 x0 z0 ((u8i b1)) true φ
 else
 q88_.L2 x0 z0 ((u8i b1)) (((u8i b1) == 95)) φ)
 else
 q88_.L2 x0 z0 ((u8i b1)) (((u8i b1) == 95)) φ))
 else
 (if 65<=(u8i b1) then
 (if (u8i b1)<=90 then
 q88_.L2 x0 z0 ((u8i b1)) true φ
 else
 q88_.L2 x0 z0 ((u8i b1)) (((u8i b1) == 95)) φ)
 else
 q88_.L2 x0 z0 ((u8i b1)) (((u8i b1) == 95)) φ))
 else
 φ true)):L1 x0 z0 φ:=
 mIn <|
 mAsk 2 h dT dF (fun h=>
 mSt 10 h fun b1 h=>
 mAsk 4 h dT dF (fun h=>
 mAsk 2 h dT dF (fun h=>
 mFin 15 h) fun h=>
 mAsk 3 h dT dF (fun h=>
 mAsk 2 h dT dF (fun h=>
 mFin 8 h) fun h=>
 mFin 8 h) fun h=>
 mFin 11 h) fun h=>
 mAsk 6 h dT dF (fun h=>
 mAsk 2 h dT dF (fun h=>
 mFin 8 h) fun h=>
 mFin 8 h) fun h=>
 mFin 11 h) fun h=>
 mRet 6 h
theorem L2_step (x0:ByteArray) (z0 z1:Int) (z2:Bool) (φ:Bool->Prop) (h :
 (if z2=true then
 q88_.L3 x0 z0 φ
 else
 (if z0=0 then
 φ false
 else
 (if z1<48 then
 φ false
 else
 (if 57<z1 then
 φ false
 else
 q88_.L3 x0 z0 φ))))):L2 x0 z0 z1 z2 φ:=
 mIn <|
 mAsk 1 h id fls (fun h=>
 mFin 16 h) fun h=>
 mAsk 3 h Aax Aaw (fun h=>
 mRet 14 h) fun h=>
 mAsk 2 h dT dF (fun h=>
 mRet 11 h) fun h=>
 mAsk 3 h dT dF (fun h=>
 mRet 7 h) fun h=>
 mFin 5 h
theorem L3_step (x0:ByteArray) (z0:Int) (φ:Bool->Prop) (h :
 q88_.L1 x0 ((IntKind.wrap .i64 (z0+1))) φ):L3 x0 z0 φ:=
 mIn <|
 mFin 4 h
theorem enter (x0:ByteArray) (φ:Bool->Prop) (h :
 (if x0.toList=((⟨#[]⟩:ByteArray)).toList then
 φ false
 else
 (if 24<(Ajb x0) then
 φ false
 else
 (if x0.toList=((⟨#[110,117,108,108]⟩:ByteArray)).toList then
 φ false
 else
 q88_.L1 x0 0 φ)))):∃ r,φ r/\C x0 r:=
 mEnt (fd:=Tryz.f55) (body:=B) (V:=W) (res:=res) <|
 mAsk 5 h Ay7 Ay6 (fun h=>
 mRet 14 h) fun h=>
 mAsk 3 h dT dF (fun h=>
 mRet 10 h) fun h=>
 mAsk 3 h Ay7 Ay6 (fun h=>
 mRet 6 h) fun h=>
 mFin 9 h
end q88_
namespace q90_
noncomputable def B:Code:=(Tryz.f60.body).getD .skip
def W:List Nat:=[0,1,2,4,5,15,20,31]
def res (r:Bool):D×List D:=(.lit (.bool r),[])
def C (x0:api_Value) (r:Bool):Prop:=Ret env 60 [.agg [.lit (.int .i64 x0.Kind),.lit (.int .i64 x0.Num),.lit (.string x0.Str)]] (res r).1 (res r).2
theorem enter (x0:api_Value) (φ:Bool->Prop) (h :
 (if x0.Kind=0 then
 (if x0.Num=0 then
 φ ((x0.Str.toList == ((⟨#[]⟩:ByteArray)).toList))
 else
 φ false)
 else
 (if x0.Kind=1 then
 φ ((x0.Str.toList == ((⟨#[]⟩:ByteArray)).toList))
 else
 (if x0.Kind=2 then
 (if x0.Num=0 then
 φ ((decide ((Ajb x0.Str)<=200)))
 else
 φ false)
 else
 (if x0.Kind=3 then
 (if 1<=x0.Num then
 φ ((x0.Str.toList == ((⟨#[]⟩:ByteArray)).toList))
 else
 φ false)
 else
 φ false))))):∃ r,φ r/\C x0 r:=
 mEnt (fd:=Tryz.f60) (body:=B) (V:=W) (res:=res) <|
 mCon 12 h Aax Aaw (fun h=>
 mAsk 3 h Aax Aaw (fun h=>
 mRet 7 h) fun h=>
 mRet 7 h) fun h=>
 mCon 4 h Aax Aaw (fun h=>
 mRet 6 h) fun h=>
 mCon 4 h Aax Aaw (fun h=>
 mAsk 3 h Aax Aaw (fun h=>
 mRet 8 h) fun h=>
 mRet 8 h) fun h=>
 mCon 4 h Aax Aaw (fun h=>
 mAsk 3 h dT dF (fun h=>
 mRet 7 h) fun h=>
 mRet 7 h) fun h=>
 mRet 4 h
end q90_
namespace q42_
noncomputable def B:Code:=(Tryz.f80.body).getD .skip
def W:List Nat:=[0,1,2]
def res (r:Bool):D×List D:=(.lit (.bool r),[])
def C (x0:api_Value) (r:Bool):Prop:=Ret env 80 [.agg [.lit (.int .i64 x0.Kind),.lit (.int .i64 x0.Num),.lit (.string x0.Str)]] (res r).1 (res r).2
theorem enter (x0:api_Value) (φ:Bool->Prop) (h :
 ∃ r1:Bool,q90_.C x0 r1 /\
 φ ((not r1))):∃ r,φ r/\C x0 r:=
 mEnt (fd:=Tryz.f80) (body:=B) (V:=W) (res:=res) <|
 mCal 6 h (fun _ h=>h) fun r1 _ h=>
 mRet 3 h
end q42_
namespace q13_
noncomputable def B:Code:=(Tryz.f100.body).getD .skip
def W:List Nat:=[0,1,4,5,7,8,9,16]
def res (r:Int):D×List D:=(.lit (.int .i64 r),[])
def C (x0:List api_Value) (r:Int):Prop:=Ret env 100 [.sl (x0.map Aa3),.fn 80 []] (res r).1 (res r).2
def L1 (x0:List api_Value) (z0:Int) (φ:Int->Prop):Prop:=Pt env 100 W B [1,0,1,0] [(0,.sl (x0.map Aa3)),(1,.fn 80 []),(7,.lit (.int .i64 ((x0.length:Int)))),(8,.lit (.int .i64 z0))] (Lv env 100 Tryz.f100 2 res φ)
theorem L1_step (x0:List api_Value) (z0:Int) (φ:Int->Prop) (h :
 (if z0<(x0.length:Int) then
 ∃ a1,lget x0 z0=some a1 /\
 ∃ r3:Bool,q42_.C a1 r3 /\
 (if r3=true then
 φ z0
 else
 q13_.L1 x0 ((IntKind.wrap .i64 (z0+1))) φ)
 else
 φ ((-1)))):L1 x0 z0 φ:=
 mIn <|
 mAsk 2 h dT dF (fun h=>
 mIx 11 Aa3 h fun a1 h2 h=>
 Aba 1 h (fun _ h=>h) (fun _ h=>
 mRet 6 h) fun _ h=>
 mFin 7 h) fun h=>
 mRet 6 h
theorem enter (x0:List api_Value) (φ:Int->Prop) (h :
 q13_.L1 x0 0 φ):∃ r,φ r/\C x0 r:=
 mEnt (fd:=Tryz.f100) (body:=B) (V:=W) (res:=res) <|
 mLen 5 Aa3 x0 <|
 mFin 2 h
end q13_
namespace q7_
noncomputable def B:Code:=(Tryz.f79.body).getD .skip
def W:List Nat:=[0,1,4]
def res (r:Bool):D×List D:=(.lit (.bool r),[])
def C (x0:List api_Value) (r:Bool):Prop:=Ret env 79 [.sl (x0.map Aa3),.fn 80 []] (res r).1 (res r).2
theorem enter (x0:List api_Value) (φ:Bool->Prop) (h :
 ∃ r1:Int,q13_.C x0 r1 /\
 φ ((decide (0<=r1)))):∃ r,φ r/\C x0 r:=
 mEnt (fd:=Tryz.f79) (body:=B) (V:=W) (res:=res) <|
 mCal 6 h (fun _ h=>h) fun r1 _ h=>
 mRet 3 h
end q7_
namespace q48_
noncomputable def B:Code:=(Tryz.f57.body).getD .skip
def W:List Nat:=[0,2]
def res (r:Bool):D×List D:=(.lit (.bool r),[])
def C (x0:List api_Value) (r:Bool):Prop:=Ret env 57 [.sl (x0.map Aa3)] (res r).1 (res r).2
theorem enter (x0:List api_Value) (φ:Bool->Prop) (h :
 ∃ r1:Bool,q7_.C x0 r1 /\
 φ ((not r1))):∃ r,φ r/\C x0 r:=
 mEnt (fd:=Tryz.f57) (body:=B) (V:=W) (res:=res) <|
 mCal 5 h (fun _ h=>h) fun r1 _ h=>
 mRet 3 h
end q48_
namespace q91_
noncomputable def B:Code:=(Tryz.f24.body).getD .skip
def W:List Nat:=[0,1,2,3,4,5,7,11,21,23,24,25,26,40,43,44,45,46,49,54,62]
def res (r:Int):D×List D:=(.lit (.int .i64 r),[])
def C (x0:api_Table) (r:Int):Prop:=Ret env 24 [.agg [.lit (.string x0.Name),.sl (x0.Attrs.map eS),.sl (x0.Rows.map Aa2)]] (res r).1 (res r).2
def L1 (x0:api_Table) (z0:Int) (φ:Int->Prop):Prop:=Pt env 24 W B [1,1,1,0,1,0] [(0,.agg [.lit (.string x0.Name),.sl (x0.Attrs.map eS),.sl (x0.Rows.map Aa2)]),(1,.box [.lit (.string x0.Name),.sl (x0.Attrs.map eS),.sl (x0.Rows.map Aa2)]),(23,.sl (x0.Attrs.map eS)),(24,.lit (.int .i64 ((x0.Attrs.length:Int)))),(25,.lit (.int .i64 z0))] (Lv env 24 Tryz.f24 1 res φ)
def L2 (x0:api_Table) (z0 z1:Int) (φ:Int->Prop):Prop:=Pt env 24 W B [1,1,1,1,1,0,1,0] [(0,.agg [.lit (.string x0.Name),.sl (x0.Attrs.map eS),.sl (x0.Rows.map Aa2)]),(1,.box [.lit (.string x0.Name),.sl (x0.Attrs.map eS),.sl (x0.Rows.map Aa2)]),(5,.lit (.int .i64 z0)),(43,.sl (x0.Rows.map Aa2)),(44,.lit (.int .i64 ((x0.Rows.length:Int)))),(45,.lit (.int .i64 z1))] (Lv env 24 Tryz.f24 1 res φ)
theorem L1_step (x0:api_Table) (z0:Int) (φ:Int->Prop) (h :
 (if z0<(x0.Attrs.length:Int) then
 ∃ a2,lget x0.Attrs z0=some a2 /\
 ∃ r4:Bool,q88_.C a2 r4 /\
 (if r4=true then
 0<=z0 /\
 (0<=z0.toNat/\z0.toNat<=x0.Attrs.length) /\
 ∃ r7:Bool,q28_.C ((List.take (z0.toNat-0) x0.Attrs)) a2 r7 /\
 (if r7=true then
 φ 1
 else
 q91_.L1 x0 ((IntKind.wrap .i64 (z0+1))) φ)
 else
 φ 1)
 else
 q91_.L2 x0 0 0 φ)):L1 x0 z0 φ:=
 mIn <|
 mAsk 2 h dT dF (fun h=>
 mIx 5 eS h fun a2 h3 h=>
 Aba 6 h (fun _ h=>h) (fun _ h=>
 h.elim fun h5 h=>
 h.elim fun h6 h=>
 mVl 5 (An9 (t:=30) (x:=(.tmp 35)) (lo:=none) (hi:=(some (.tmp 36))) (lo':=none) (hi':=some (z0).toNat) (e:=eS) (l:=x0.Attrs) (et:=9) (k:=1) (by kernel_rfl) (by kernel_rfl) Aek (Ael (i:=z0) (q:=.i64) (by kernel_rfl) h5) (by kernel_rfl) (by kernel_rfl) (fun _=>rfl) (by kernel_rfl) h6.1 h6.2) <|
 Aba 1 h (fun _ h=>h) (fun _ h=>
 mRet 6 h) fun _ h=>
 mFin 8 h) fun _ h=>
 mRet 14 h) fun h=>
 mLen 9 Aa2 x0.Rows <|
 mFin 2 h
theorem L2_step (x0:api_Table) (z0 z1:Int) (φ:Int->Prop) (h :
 (if z1<(x0.Rows.length:Int) then
 ∃ a8,lget x0.Rows z1=some a8 /\
 (if a8.ID<=z0 then
 φ 1
 else
 (if (a8.Values.length:Int)=(x0.Attrs.length:Int) then
 ∃ r10:Bool,q48_.C a8.Values r10 /\
 (if r10=true then
 q91_.L2 x0 a8.ID ((IntKind.wrap .i64 (z1+1))) φ
 else
 φ 1)
 else
 φ 6))
 else
 φ 0)):L2 x0 z0 z1 φ:=
 mIn <|
 mAsk 2 h dT dF (fun h=>
 mIx 4 Aa2 h fun a8 h9 h=>
 mCon 11 h dT dF (fun h=>
 mRet 3 h) fun h=>
 mLen 3 Aa3 a8.Values <|
 mLen 2 eS x0.Attrs <|
 Atp 3 h Acz Acy (fun h=>
 mRet 3 h) fun h=>
 mCal 3 h (fun _ h=>h) fun r10 _ h=>
 Atp 3 h (fun h=>fls (Atr h)) (fun h=>id (Atq h)) (fun h=>
 mRet 3 h) fun h=>
 mFin 10 h) fun h=>
 mRet 6 h
theorem enter (x0:api_Table) (φ:Int->Prop) (h :
 ∃ r1:Bool,q88_.C x0.Name r1 /\
 (if r1=true then
 (if 16<(x0.Attrs.length:Int) then
 φ 3
 else
 (if 1000<(x0.Rows.length:Int) then
 φ 3
 else
 q91_.L1 x0 0 φ))
 else
 φ 1)):∃ r,φ r/\C x0 r:=
 mEnt (fd:=Tryz.f24) (body:=B) (V:=W) (res:=res) <|
 Aba 7 h (fun _ h=>h) (fun _ h=>
 mLen 7 eS x0.Attrs <|
 mAsk 0 h dT dF (fun h=>
 mRet 11 h) fun h=>
 mLen 3 Aa2 x0.Rows <|
 mAsk 0 h dT dF (fun h=>
 mRet 6 h) fun h=>
 mLen 7 eS x0.Attrs <|
 mFin 2 h) fun _ h=>
 mRet 6 h
end q91_
namespace q69_
noncomputable def B:Code:=(Tryz.f21.body).getD .skip
def W:List Nat:=[0,1,4]
def res (r:Bool):D×List D:=(.lit (.bool r),[])
def C (x0 x1:Int) (r:Bool):Prop:=Ret env 21 [.lit (.int .u32 x0),.lit (.int .i64 x1)] (res r).1 (res r).2
theorem enter (x0 x1:Int) (φ:Bool->Prop) (h :
 (if 0<=x1 then
 (if x1<32 then
 0<=x1 /\
 φ (((bAnd .u32 (shrw .u32 x0 x1) 1) == 1))
 else
 φ false)
 else
 φ false)):∃ r,φ r/\C x0 x1 r:=
 mEnt (fd:=Tryz.f21) (body:=B) (V:=W) (res:=res) <|
 mAsk 5 h dT dF (fun h=>
 mAsk 2 h dT dF (fun h=>
 h.elim fun h1 h=>
 mBi 4 (Bbz (t:=62) (q:=.u32) (q':=.i64) (i1:=x0) h1) <|
 mRet 5 h) fun h=>
 mRet 10 h) fun h=>
 mRet 13 h
end q69_
namespace q79_
noncomputable def B:Code:=(Tryz.f133.body).getD .skip
def W:List Nat:=[0,2]
def res (r:Bool):D×List D:=(.lit (.bool r),[])
def C (x0:Int) (r:Bool):Prop:=Ret env 133 [.lit (.int .i64 x0)] (res r).1 (res r).2
theorem enter (x0:Int) (φ:Bool->Prop) (h :
 φ ((x0 != x0))):∃ r,φ r/\C x0 r:=
 mEnt (fd:=Tryz.f133) (body:=B) (V:=W) (res:=res) <|
 mRet 9 h
end q79_
namespace q64_
noncomputable def B:Code:=(Tryz.f102.body).getD .skip
def W:List Nat:=[0,1,4,5,6,11,12,13,16,19]
def res (r:Int):D×List D:=(.lit (.int .i64 r),[])
def C (x0 x1 r:Int):Prop:=Ret env 102 [.lit (.int .i64 x0),.lit (.int .i64 x1)] (res r).1 (res r).2
theorem enter (x0 x1:Int) (φ:Int->Prop) (h :
 ∃ r1:Bool,q79_.C x0 r1 /\
 ∃ r2:Bool,q79_.C x1 r2 /\
 (if r1=true then
 (if r2=true then
 φ 0
 else
 φ ((-1)))
 else
 (if r2=true then
 φ 1
 else
 (if x0<x1 then
 φ ((-1))
 else
 (if x1<x0 then
 φ 1
 else
 φ 0))))):∃ r,φ r/\C x0 x1 r:=
 mEnt (fd:=Tryz.f102) (body:=B) (V:=W) (res:=res) <|
 mCal 5 h (fun _ h=>h) fun r1 _ h=>
 mCal 4 h (fun _ h=>h) fun r2 _ h=>
 mAsk 3 h id fls (fun h=>
 mAsk 3 h id fls (fun h=>
 mRet 5 h) fun h=>
 mRet 6 h) fun h=>
 mAsk 4 h id fls (fun h=>
 mRet 5 h) fun h=>
 mAsk 6 h dT dF (fun h=>
 mRet 5 h) fun h=>
 mAsk 6 h dT dF (fun h=>
 mRet 5 h) fun h=>
 mRet 6 h
end q64_
namespace q93_
noncomputable def B:Code:=(Tryz.f101.body).getD .skip
def W:List Nat:=[0,2,3,5,6,7,8,9,14]
def res (r:Int):D×List D:=(.lit (.int .i64 r),[])
def C (x0:List Int) (r:Int):Prop:=Ret env 101 [.sl (x0.map (eI .i64))] (res r).1 (res r).2
def L1 (x0:List Int) (z0:Int) (φ:Int->Prop):Prop:=Pt env 101 W B [1,1,0,1,0] [(0,.sl (x0.map (eI .i64))),(3,.lit (.int .i64 0)),(6,.sl (x0.map (eI .i64))),(7,.lit (.int .i64 ((x0.length:Int)))),(8,.lit (.int .i64 z0))] (Lv env 101 Tryz.f101 1 res φ)
theorem L1_step (x0:List Int) (z0:Int) (φ:Int->Prop) (h :
 (if z0<(x0.length:Int) then
 ∃ a1,lget x0 z0=some a1 /\
 (if a1=0 then
 q93_.L1 x0 ((IntKind.wrap .i64 (z0+1))) φ
 else
 φ a1)
 else
 φ 0)):L1 x0 z0 φ:=
 mIn <|
 mAsk 2 h dT dF (fun h=>
 mIx 4 (eI .i64) h fun a1 h2 h=>
 Adn 6 h Acz Acy (fun h=>
 mRet 6 h) fun h=>
 mFin 7 h) fun h=>
 mRet 7 h
theorem enter (x0:List Int) (φ:Int->Prop) (h :
 q93_.L1 x0 0 φ):∃ r,φ r/\C x0 r:=
 mEnt (fd:=Tryz.f101) (body:=B) (V:=W) (res:=res) <|
 mLen 8 (eI .i64) x0 <|
 mFin 2 h
end q93_
namespace q29_
noncomputable def B:Code:=(Tryz.f134.body).getD .skip
def W:List Nat:=[0,1,4]
def res (r:Int):D×List D:=(.lit (.int .i64 r),[])
def C (x0 x1:ByteArray) (r:Int):Prop:=Ret env 134 [.lit (.string x0),.lit (.string x1)] (res r).1 (res r).2
theorem enter (x0 x1:ByteArray) (φ:Int->Prop) (h :
 φ ((bcmp x0 x1))):∃ r,φ r/\C x0 x1 r:=
 mEnt (fd:=Tryz.f134) (body:=B) (V:=W) (res:=res) <|
 Bh1 6 (show Ret env 154 [.lit (.string x0),.lit (.string x1)] (.lit (.int .i64 ((bcmp x0 x1)))) [] from Bdr (by kernel_rfl)) <|
 mRet 2 h
end q29_
namespace q65_
noncomputable def B:Code:=(Tryz.f103.body).getD .skip
def W:List Nat:=[0,1,4]
def res (r:Int):D×List D:=(.lit (.int .i64 r),[])
def C (x0 x1:ByteArray) (r:Int):Prop:=Ret env 103 [.lit (.string x0),.lit (.string x1)] (res r).1 (res r).2
theorem enter (x0 x1:ByteArray) (φ:Int->Prop) (h :
 ∃ r1:Int,q29_.C x0 x1 r1 /\
 φ r1):∃ r,φ r/\C x0 x1 r:=
 mEnt (fd:=Tryz.f103) (body:=B) (V:=W) (res:=res) <|
 mCal 6 h (fun _ h=>h) fun r1 _ h=>
 mRet 2 h
end q65_
namespace q80_
noncomputable def B:Code:=(Tryz.f84.body).getD .skip
def W:List Nat:=[0,1,2,3,4]
def res (r:Int):D×List D:=(.lit (.int .i64 r),[])
def C (x0 x1:api_Value) (r:Int):Prop:=Ret env 84 [.agg [.lit (.int .i64 x0.Kind),.lit (.int .i64 x0.Num),.lit (.string x0.Str)],.agg [.lit (.int .i64 x1.Kind),.lit (.int .i64 x1.Num),.lit (.string x1.Str)]] (res r).1 (res r).2
theorem enter (x0 x1:api_Value) (φ:Int->Prop) (h :
 ∃ r1:Int,q64_.C x0.Kind x1.Kind r1 /\
 ∃ r2:Int,q47_.C x0.Num x1.Num r2 /\
 ∃ r3:Int,q65_.C x0.Str x1.Str r3 /\
 ∃ r4:Int,q93_.C ([r1,r2,r3]) r4 /\
 φ r4):∃ r,φ r/\C x0 x1 r:=
 mEnt (fd:=Tryz.f84) (body:=B) (V:=W) (res:=res) <|
 mLo 10 h (fun _ h=>h) fun r1 _ h=>
 mLo 4 h (fun _ h=>h) fun r2 _ h=>
 mCal 4 h (fun _ h=>h) fun r3 _ h=>
 mCal 1 h (fun _ h=>h) (hr:=by exact (Akn (Anz (s:=20) (ps:=[]) (l:=[r1,r2,r3]) (e:=(eI .i64)) (e':=(eI .i64)) (fun _=>rfl) (by kernel_rfl)) Aqp)) fun r4 _ h=>
 mRet 2 h
end q80_
namespace q49_
noncomputable def B:Code:=(Tryz.f40.body).getD .skip
def W:List Nat:=[0,1,4,5,15,26]
def res (r:Bool):D×List D:=(.lit (.bool r),[])
def C (x0 x1:List Int) (r:Bool):Prop:=Ret env 40 [.sl (x0.map (eI .i64)),.sl (x1.map (eI .i64))] (res r).1 (res r).2
def L1 (x0 x1:List Int) (z0:Int) (φ:Bool->Prop):Prop:=Pt env 40 W B [1,0,1,0] [(0,.sl (x0.map (eI .i64))),(1,.sl (x1.map (eI .i64))),(5,.lit (.int .i64 z0))] (Lv env 40 Tryz.f40 2 res φ)
def L2 (x0 x1:List Int) (φ:Bool->Prop):Prop:=Pt env 40 W B [1,1,0] [(0,.sl (x0.map (eI .i64))),(1,.sl (x1.map (eI .i64)))] (Lv env 40 Tryz.f40 2 res φ)
theorem L1_step (x0 x1:List Int) (z0:Int) (φ:Bool->Prop) (h :
 (if z0<(x0.length:Int) then
 (if z0<(x1.length:Int) then
 ∃ a1,lget x0 z0=some a1 /\
 ∃ a3,lget x1 z0=some a3 /\
 (if a1=a3 then
 q49_.L1 x0 x1 ((IntKind.wrap .i64 (z0+1))) φ
 else
 φ ((decide (a1<a3))))
 else
 q49_.L2 x0 x1 φ)
 else
 q49_.L2 x0 x1 φ)):L1 x0 x1 z0 φ:=
 mIn <|
 mLen 4 (eI .i64) x0 <|
 mAsk 0 h dT dF (fun h=>
 mLen 3 (eI .i64) x1 <|
 mAsk 0 h dT dF (fun h=>
 mIx 7 (eI .i64) h fun a1 h2 h=>
 mIx 3 (eI .i64) h fun a3 h4 h=>
 Adn 1 h Acz Acy (fun h=>
 mIxf 5 (eI .i64) h2 <|
 mIxf 3 (eI .i64) h4 <|
 mRet 4 h) fun h=>
 mFin 8 h) fun h=>
 mFin 4 h) fun h=>
 mFin 9 h
theorem L2_step (x0 x1:List Int) (φ:Bool->Prop) (h :
 φ ((decide ((x0.length:Int)<(x1.length:Int))))):L2 x0 x1 φ:=
 mIn <|
 mLen 2 (eI .i64) x0 <|
 mLen 1 (eI .i64) x1 <|
 mRet 3 h
theorem enter (x0 x1:List Int) (φ:Bool->Prop) (h :
 q49_.L1 x0 x1 0 φ):∃ r,φ r/\C x0 x1 r:=
 mEnt (fd:=Tryz.f40) (body:=B) (V:=W) (res:=res) <|
 mFin 6 h
end q49_
namespace q70_
noncomputable def B:Code:=(Tryz.f13.body).getD .skip
def W:List Nat:=[0,1,4,5,6,10,28,50]
def res (r:List (List Int)):D×List D:=(.own (r.map (eSl (eI .i64))),[])
def C (x1:List Int) (k0_0 r:List (List Int)):Prop:=Ret env 13 [.own (k0_0.map (eSl (eI .i64))),.sl (x1.map (eI .i64))] (res r).1 (res r).2
def L1 (k0_0:List (List Int)) (x1:List Int) (z0:Int) (φ:List (List Int)->Prop):Prop:=Pt env 13 W B [1,0,1,0] [(0,.own (k0_0.map (eSl (eI .i64)))),(1,.sl (x1.map (eI .i64))),(5,.lit (.int .i64 z0))] (Lv env 13 Tryz.f13 2 res φ)
def L2 (k0_0:List (List Int)) (x1:List Int) (z0:Int) (φ:List (List Int)->Prop):Prop:=Pt env 13 W B [1,0,1,0,0,1,1] [(0,.own (k0_0.map (eSl (eI .i64)))),(1,.sl (x1.map (eI .i64))),(5,.lit (.int .i64 z0))] (Lv env 13 Tryz.f13 2 res φ)
def L3 (z0:List (List Int)) (z1:Int) (φ:List (List Int)->Prop):Prop:=Pt env 13 W B [1,1,1,0,1,0] [(0,.own (z0.map (eSl (eI .i64)))),(6,.lit (.int .i64 z1))] (Lv env 13 Tryz.f13 2 res φ)
theorem L1_step (k0_0:List (List Int)) (x1:List Int) (z0:Int) (φ:List (List Int)->Prop) (h :
 (if z0<(k0_0.length:Int) then
 ∃ a1,lget k0_0 z0=some a1 /\
 ∃ r3:Bool,q49_.C a1 x1 r3 /\
 (if r3=true then
 q70_.L2 k0_0 x1 z0 φ
 else
 ∃ r4:Bool,q49_.C x1 a1 r4 /\
 (if r4=true then
 q70_.L2 k0_0 x1 z0 φ
 else
 φ k0_0))
 else
 (k0_0.length+1)*24<=140737488355328 /\
 q70_.L3 ((k0_0++[x1])) ((IntKind.wrap .i64 (((k0_0++[x1]).length:Int)-1))) φ)):L1 k0_0 x1 z0 φ:=
 mIn <|
 mLen 4 (eSl (eI .i64)) k0_0 <|
 mAsk 0 h dT dF (fun h=>
 mIy 6 (eSl (eI .i64)) h fun a1 h2 h=>
 mLd 0 (eSl (eI .i64)) h2 <|
 Aba 1 h (fun _ h=>h) (fun _ h=>
 mFin 13 h) fun _ h=>
 mIyf 5 (eSl (eI .i64)) h2 <|
 mLd 0 (eSl (eI .i64)) h2 <|
 Aba 0 h (fun _ h=>h) (fun _ h=>
 mFin 5 h) fun _ h=>
 mRet 8 h) fun h=>
 mApp 7 (eSl (eI .i64)) k0_0 ([x1]) h fun h=>
 mLen 4 (eSl (eI .i64)) ((k0_0++[x1])) <|
 mFin 3 h
theorem L2_step (k0_0:List (List Int)) (x1:List Int) (z0:Int) (φ:List (List Int)->Prop) (h :
 q70_.L1 k0_0 x1 ((IntKind.wrap .i64 (z0+1))) φ):L2 k0_0 x1 z0 φ:=
 mIn <|
 mFin 5 h
theorem L3_step (z0:List (List Int)) (z1:Int) (φ:List (List Int)->Prop) (h :
 (if 0<z1 then
 ∃ a6,lget z0 z1=some a6 /\
 ∃ a8,lget z0 ((IntKind.wrap .i64 (z1-1)))=some a8 /\
 ∃ r10:Bool,q49_.C a6 a8 r10 /\
 (if r10=true then
 ∃ a11,lget ((lset z0 z1 a8)) ((IntKind.wrap .i64 (z1-1)))=some a11 /\
 q70_.L3 ((lset (lset z0 z1 a8) (IntKind.wrap .i64 (z1-1)) a6)) ((IntKind.wrap .i64 (z1-1))) φ
 else
 φ z0)
 else
 φ z0)):L3 z0 z1 φ:=
 mIn <|
 mAsk 3 h dT dF (fun h=>
 mIy 3 (eSl (eI .i64)) h fun a6 h7 h=>
 mLd 0 (eSl (eI .i64)) h7 <|
 mIy 3 (eSl (eI .i64)) h fun a8 h9 h=>
 mLd 0 (eSl (eI .i64)) h9 <|
 Aba 0 h (fun _ h=>h) (fun _ h=>
 mIyf 13 (eSl (eI .i64)) h9 <|
 mLd 0 (eSl (eI .i64)) h9 <|
 mIyf 2 (eSl (eI .i64)) h7 <|
 mLd 0 (eSl (eI .i64)) h7 <|
 mIyf 0 (eSl (eI .i64)) h7 <|
 Adx 0 (eSl (eI .i64)) a8 h7 <|
 mIy 0 (eSl (eI .i64)) h fun a11 h12 h=>
 mSto 0 (eSl (eI .i64)) a6 h12 <|
 mFin 6 h) fun _ h=>
 mRet 8 h) fun h=>
 mRet 19 h
theorem enter (x1:List Int) (k0_0:List (List Int)) (φ:List (List Int)->Prop) (h :
 q70_.L1 k0_0 x1 0 φ):∃ r,φ r/\C x1 k0_0 r:=
 mEnt (fd:=Tryz.f13) (body:=B) (V:=W) (res:=res) <|
 mFin 6 h
end q70_
namespace q81_
noncomputable def B:Code:=(Tryz.f22.body).getD .skip
def W:List Nat:=[0,2,4,5,8,11,14,17,20,23,26,29,32,35]
def res (r:api_Value):D×List D:=(.agg [.lit (.int .i64 r.Kind),.lit (.int .i64 r.Num),.lit (.string r.Str)],[])
def C (x0:Int) (r:api_Value):Prop:=Ret env 22 [.lit (.int .u8 x0)] (res r).1 (res r).2
theorem enter (x0:Int) (φ:api_Value->Prop) (h :
 (if (Int.tmod x0 12)=0 then
 φ ((⟨1,0,(⟨#[]⟩:ByteArray)⟩:api_Value))
 else
 (if (Int.tmod x0 12)=1 then
 φ ((⟨1,1,(⟨#[]⟩:ByteArray)⟩:api_Value))
 else
 (if (Int.tmod x0 12)=2 then
 φ ((⟨1,2,(⟨#[]⟩:ByteArray)⟩:api_Value))
 else
 (if (Int.tmod x0 12)=3 then
 φ ((⟨0,0,(⟨#[]⟩:ByteArray)⟩:api_Value))
 else
 (if (Int.tmod x0 12)=4 then
 φ ((⟨2,0,(⟨#[97]⟩:ByteArray)⟩:api_Value))
 else
 (if (Int.tmod x0 12)=5 then
 φ ((⟨2,0,(⟨#[98]⟩:ByteArray)⟩:api_Value))
 else
 (if (Int.tmod x0 12)=6 then
 φ ((⟨2,0,(⟨#[]⟩:ByteArray)⟩:api_Value))
 else
 (if (Int.tmod x0 12)=7 then
 φ ((⟨3,1,(⟨#[]⟩:ByteArray)⟩:api_Value))
 else
 (if (Int.tmod x0 12)=8 then
 φ ((⟨1,(-1),(⟨#[]⟩:ByteArray)⟩:api_Value))
 else
 (if (Int.tmod x0 12)=9 then
 φ ((⟨2,0,(⟨#[97,98]⟩:ByteArray)⟩:api_Value))
 else
 (if (Int.tmod x0 12)=10 then
 φ ((⟨3,2,(⟨#[]⟩:ByteArray)⟩:api_Value))
 else
 φ ((⟨1,7,(⟨#[]⟩:ByteArray)⟩:api_Value)))))))))))))):∃ r,φ r/\C x0 r:=
 mEnt (fd:=Tryz.f22) (body:=B) (V:=W) (res:=res) <|
 mCon 11 h Aax Aaw (fun h=>
 mRet 4 h) fun h=>
 mCon 4 h Aax Aaw (fun h=>
 mRet 4 h) fun h=>
 mCon 4 h Aax Aaw (fun h=>
 mRet 4 h) fun h=>
 mCon 4 h Aax Aaw (fun h=>
 mRet 4 h) fun h=>
 mCon 4 h Aax Aaw (fun h=>
 mRet 4 h) fun h=>
 mCon 4 h Aax Aaw (fun h=>
 mRet 4 h) fun h=>
 mCon 4 h Aax Aaw (fun h=>
 mRet 4 h) fun h=>
 mCon 4 h Aax Aaw (fun h=>
 mRet 4 h) fun h=>
 mCon 4 h Aax Aaw (fun h=>
 mRet 4 h) fun h=>
 mCon 4 h Aax Aaw (fun h=>
 mRet 4 h) fun h=>
 mCon 4 h Aax Aaw (fun h=>
 mRet 4 h) fun h=>
 mRet 5 h
end q81_
namespace q66_
noncomputable def B:Code:=(Tryz.f15.body).getD .skip
def W:List Nat:=[0,1,2,4,5,6,7,8,9,20,34,44]
def res (r:api_Table):D×List D:=(.agg [.lit (.string r.Name),.own (r.Attrs.map eS),.own (r.Rows.map Acj)],[])
def C (x0:drossref03_Recipe) (x1:Int) (r:api_Table):Prop:=Ret env 15 [.agg [.lit (.int .u8 x0.Attrs),.lit (.int .u8 x0.Gap),.sl (x0.Rows.map (eSl (eI .u8)))],.lit (.int .i64 x1)] (res r).1 (res r).2
def L1 (x0:drossref03_Recipe) (x1:Int) (z0:List api_Row) (z1:Int) (φ:api_Table->Prop):Prop:=Pt env 15 W B [1,1,0,1,0] [(0,.agg [.lit (.int .u8 x0.Attrs),.lit (.int .u8 x0.Gap),.sl (x0.Rows.map (eSl (eI .u8)))]),(1,.lit (.int .i64 x1)),(2,.box [.lit (.int .u8 x0.Attrs),.lit (.int .u8 x0.Gap),.sl (x0.Rows.map (eSl (eI .u8)))]),(4,.box [.lit (.string ((⟨#[]⟩:ByteArray))),.own [],.own []]),(5,.box [.lit (.string ((⟨#[114]⟩:ByteArray))),.own (((List.take (x1.toNat-0) (List.drop 0 [(⟨#[97]⟩:ByteArray),(⟨#[98]⟩:ByteArray),(⟨#[99]⟩:ByteArray),(⟨#[100]⟩:ByteArray),(⟨#[101]⟩:ByteArray),(⟨#[102]⟩:ByteArray),(⟨#[103]⟩:ByteArray),(⟨#[104]⟩:ByteArray)]))).map eS),.own (z0.map Acj)]),(6,.lit (.int .i64 z1))] (Lv env 15 Tryz.f15 2 res φ)
def L2 (x0:drossref03_Recipe) (x1:Int) (z0:List api_Row) (z1 z2:Int) (z3:List api_Value) (z4:Int) (φ:api_Table->Prop):Prop:=Pt env 15 W B [1,1,0,1,0,0,1,0,0,1,0,1,0] [(0,.agg [.lit (.int .u8 x0.Attrs),.lit (.int .u8 x0.Gap),.sl (x0.Rows.map (eSl (eI .u8)))]),(1,.lit (.int .i64 x1)),(2,.box [.lit (.int .u8 x0.Attrs),.lit (.int .u8 x0.Gap),.sl (x0.Rows.map (eSl (eI .u8)))]),(4,.box [.lit (.string ((⟨#[]⟩:ByteArray))),.own [],.own []]),(5,.box [.lit (.string ((⟨#[114]⟩:ByteArray))),.own (((List.take (x1.toNat-0) (List.drop 0 [(⟨#[97]⟩:ByteArray),(⟨#[98]⟩:ByteArray),(⟨#[99]⟩:ByteArray),(⟨#[100]⟩:ByteArray),(⟨#[101]⟩:ByteArray),(⟨#[102]⟩:ByteArray),(⟨#[103]⟩:ByteArray),(⟨#[104]⟩:ByteArray)]))).map eS),.own (z0.map Acj)]),(6,.lit (.int .i64 z1)),(7,.box [.lit (.int .i64 z2),.own (z3.map Aa3)]),(8,.lit (.int .i64 z4))] (Lv env 15 Tryz.f15 2 res φ)
def L3 (x0:drossref03_Recipe) (x1:Int) (z0:List api_Row) (z1 z2:Int) (z3:List api_Value) (z4 a7:Int) (φ:api_Table->Prop):Prop:=Pt env 15 W B [1,1,0,1,0,0,1,0,0,1,0,1,0,0,1,0,0,1,1] [(0,.agg [.lit (.int .u8 x0.Attrs),.lit (.int .u8 x0.Gap),.sl (x0.Rows.map (eSl (eI .u8)))]),(1,.lit (.int .i64 x1)),(2,.box [.lit (.int .u8 x0.Attrs),.lit (.int .u8 x0.Gap),.sl (x0.Rows.map (eSl (eI .u8)))]),(4,.box [.lit (.string ((⟨#[]⟩:ByteArray))),.own [],.own []]),(5,.box [.lit (.string ((⟨#[114]⟩:ByteArray))),.own (((List.take (x1.toNat-0) (List.drop 0 [(⟨#[97]⟩:ByteArray),(⟨#[98]⟩:ByteArray),(⟨#[99]⟩:ByteArray),(⟨#[100]⟩:ByteArray),(⟨#[101]⟩:ByteArray),(⟨#[102]⟩:ByteArray),(⟨#[103]⟩:ByteArray),(⟨#[104]⟩:ByteArray)]))).map eS),.own (z0.map Acj)]),(6,.lit (.int .i64 z1)),(7,.box [.lit (.int .i64 z2),.own (z3.map Aa3)]),(8,.lit (.int .i64 z4)),(9,.lit (.int .u8 a7))] (Lv env 15 Tryz.f15 2 res φ)
theorem L1_step (x0:drossref03_Recipe) (x1:Int) (z0:List api_Row) (z1:Int) (φ:api_Table->Prop) (h :
 (if z1<(x0.Rows.length:Int) then
 q66_.L2 x0 x1 z0 z1 ((IntKind.wrap .i64 (1+(IntKind.wrap .i64 (z1*(IntKind.wrap .i64 (1+(IntKind.wrap .i64 (Int.tmod x0.Gap 3))))))))) ([]) 0 φ
 else
 φ ((⟨(⟨#[114]⟩:ByteArray),(List.take (x1.toNat-0) (List.drop 0 [(⟨#[97]⟩:ByteArray),(⟨#[98]⟩:ByteArray),(⟨#[99]⟩:ByteArray),(⟨#[100]⟩:ByteArray),(⟨#[101]⟩:ByteArray),(⟨#[102]⟩:ByteArray),(⟨#[103]⟩:ByteArray),(⟨#[104]⟩:ByteArray)])),z0⟩:api_Table)))):L1 x0 x1 z0 z1 φ:=
 mIn <|
 mLen 5 (eSl (eI .u8)) x0.Rows <|
 mAsk 0 h dT dF (fun h=>
 mFin 19 h) fun h=>
 mRet 7 h
theorem L2_step (x0:drossref03_Recipe) (x1:Int) (z0:List api_Row) (z1 z2:Int) (z3:List api_Value) (z4:Int) (φ:api_Table->Prop) (h :
 (if z4<x1 then
 ∃ a5,lget x0.Rows z1=some a5 /\
 (if z4<(a5.length:Int) then
 ∃ a7,lget a5 z4=some a7 /\
 q66_.L3 x0 x1 z0 z1 z2 z3 z4 a7 φ
 else
 q66_.L3 x0 x1 z0 z1 z2 z3 z4 0 φ)
 else
 (z0.length+1)*32<=140737488355328 /\
 q66_.L1 x0 x1 ((z0++[(⟨z2,z3⟩:api_Row)])) ((IntKind.wrap .i64 (z1+1))) φ)):L2 x0 x1 z0 z1 z2 z3 z4 φ:=
 mIn <|
 mAsk 4 h dT dF (fun h=>
 mIx 11 (eSl (eI .u8)) h fun a5 h6 h=>
 mLen 1 (eI .u8) a5 <|
 mAsk 0 h dT dF (fun h=>
 mIxf 6 (eSl (eI .u8)) h6 <|
 mIx 2 (eI .u8) h fun a7 h8 h=>
 mFin 3 h) fun h=>
 mFin 3 h) fun h=>
 mApp 8 Acj z0 ([(⟨z2,z3⟩:api_Row)]) h fun h=>
 mFin 8 h
theorem L3_step (x0:drossref03_Recipe) (x1:Int) (z0:List api_Row) (z1 z2:Int) (z3:List api_Value) (z4 a7:Int) (φ:api_Table->Prop) (h :
 ∃ r10:api_Value,q81_.C a7 r10 /\
 (z3.length+1)*32<=140737488355328 /\
 q66_.L2 x0 x1 z0 z1 z2 ((z3++[r10])) ((IntKind.wrap .i64 (z4+1))) φ):L3 x0 x1 z0 z1 z2 z3 z4 a7 φ:=
 mIn <|
 mLo 4 h (fun _ h=>h) (hf:=(fun _=>Abm (Ab1 (Aa1 rfl (Aa1 rfl (Aa1 rfl Aag)))))) fun r10 _ h=>
 mApp 1 Aa3 z3 ([r10]) h fun h=>
 mFin 8 h
theorem enter (x0:drossref03_Recipe) (x1:Int) (φ:api_Table->Prop) (h :
 0<=x1 /\
 (0<=x1.toNat/\x1.toNat<=([(⟨#[97]⟩:ByteArray),(⟨#[98]⟩:ByteArray),(⟨#[99]⟩:ByteArray),(⟨#[100]⟩:ByteArray),(⟨#[101]⟩:ByteArray),(⟨#[102]⟩:ByteArray),(⟨#[103]⟩:ByteArray),(⟨#[104]⟩:ByteArray)]).length) /\
 0+(x1.toNat-0)<=([(⟨#[97]⟩:ByteArray),(⟨#[98]⟩:ByteArray),(⟨#[99]⟩:ByteArray),(⟨#[100]⟩:ByteArray),(⟨#[101]⟩:ByteArray),(⟨#[102]⟩:ByteArray),(⟨#[103]⟩:ByteArray),(⟨#[104]⟩:ByteArray)]).length /\
 (0+((List.take (x1.toNat-0) (List.drop 0 [(⟨#[97]⟩:ByteArray),(⟨#[98]⟩:ByteArray),(⟨#[99]⟩:ByteArray),(⟨#[100]⟩:ByteArray),(⟨#[101]⟩:ByteArray),(⟨#[102]⟩:ByteArray),(⟨#[103]⟩:ByteArray),(⟨#[104]⟩:ByteArray)]))).length)*16<=140737488355328 /\
 q66_.L1 x0 x1 ([]) 0 φ):∃ r,φ r/\C x0 x1 r:=
 mEnt (fd:=Tryz.f15) (body:=B) (V:=W) (res:=res) <|
 h.elim fun h1 h=>
 h.elim fun h2 h=>
 mVl 8 (Agq (s:=11) (ps:=[]) (t:=30) (x:=(.tmp 11)) (lo:=none) (hi:=(some (.tmp 12))) (lo':=none) (hi':=some (x1).toNat) (e:=eS) (l:=[(⟨#[97]⟩:ByteArray),(⟨#[98]⟩:ByteArray),(⟨#[99]⟩:ByteArray),(⟨#[100]⟩:ByteArray),(⟨#[101]⟩:ByteArray),(⟨#[102]⟩:ByteArray),(⟨#[103]⟩:ByteArray),(⟨#[104]⟩:ByteArray)]) (et:=9) (k:=1) (by kernel_rfl) (by kernel_rfl) (Ahv (by kernel_rfl)) Aek (Ael (i:=x1) (q:=.i64) (by kernel_rfl) h1) (by kernel_rfl) (by kernel_rfl) (fun _=>rfl) (by kernel_rfl) h2.1 h2.2) <|
 h.elim fun h3 h=>
 h.elim fun h4 h=>
 mOp 0 (app3 (x:=(.tmp 10)) (y:=(.tmp 13)) (t:=30) (u:=30) (et:=9) (z:=.lit (.string ((⟨#[]⟩:ByteArray)))) (k:=1) (c:=16) (e:=eS) (l:=[]) (m:=(List.take (x1.toNat-0) (List.drop 0 [(⟨#[97]⟩:ByteArray),(⟨#[98]⟩:ByteArray),(⟨#[99]⟩:ByteArray),(⟨#[100]⟩:ByteArray),(⟨#[101]⟩:ByteArray),(⟨#[102]⟩:ByteArray),(⟨#[103]⟩:ByteArray),(⟨#[104]⟩:ByteArray)]))) (by kernel_rfl) (by kernel_rfl) (by kernel_rfl) (by kernel_rfl) (by kernel_rfl) (by kernel_rfl) (Aux (s:=11) (ps:=[]) (off:=0) (len:=(x1.toNat-0)) (by kernel_rfl) (Afq (s:=11) (ps:=[]) (l:=[(⟨#[97]⟩:ByteArray),(⟨#[98]⟩:ByteArray),(⟨#[99]⟩:ByteArray),(⟨#[100]⟩:ByteArray),(⟨#[101]⟩:ByteArray),(⟨#[102]⟩:ByteArray),(⟨#[103]⟩:ByteArray),(⟨#[104]⟩:ByteArray)]) (e:=eS) (by kernel_rfl) h3) (fun _=>rfl)) (by kernel_rfl) (by kernel_rfl) (by kernel_rfl) (by kernel_rfl) (fun _=>rfl) h4) <|
 mFin 7 h
end q66_
namespace q53_
noncomputable def B:Code:=(Tryz.f4.body).getD .skip
def W:List Nat:=[0,1,2,4,5,10]
def res (r:api_Table×Bool):D×List D:=(.tup [.agg [.lit (.string r.1.Name),.own (r.1.Attrs.map eS),.own (r.1.Rows.map Acj)],.lit (.bool r.2)],[])
def C (x0:drossref03_Recipe) (x1:Int) (r:api_Table×Bool):Prop:=Ret env 4 [.agg [.lit (.int .u8 x0.Attrs),.lit (.int .u8 x0.Gap),.sl (x0.Rows.map (eSl (eI .u8)))],.lit (.int .i64 x1)] (res r).1 (res r).2
theorem enter (x0:drossref03_Recipe) (x1:Int) (φ:api_Table×Bool->Prop) (h :
 (if x1<(x0.Rows.length:Int) then
 φ (((⟨(⟨#[]⟩:ByteArray),[],[]⟩:api_Table),false))
 else
 ∃ r1:api_Table,q66_.C x0 ((IntKind.wrap .i64 (Int.tmod x0.Attrs 6))) r1 /\
 φ ((r1,true)))):∃ r,φ r/\C x0 x1 r:=
 mEnt (fd:=Tryz.f4) (body:=B) (V:=W) (res:=res) <|
 mLen 8 (eSl (eI .u8)) x0.Rows <|
 mAsk 1 h dT dF (fun h=>
 mRet 7 h) fun h=>
 mCal 9 h (fun _ h=>h) (hf:=(fun _=>Ac4 (Ab1 (Aa1 rfl (Aa1 (Ab9 (e:=eS) (fun _=>rfl)) (Aa1 (Ab9 (e:=Acj) (fun _=>(Aa1 rfl (Aa1 (Ab9 (e:=Aa3) (fun _=>rfl)) Aag)))) Aag)))) rfl)) fun r1 _ h=>
 mRet 3 h
end q53_
namespace q54_
noncomputable def B:Code:=(Tryz.f64.body).getD .skip
def W:List Nat:=[0,1,2,3,4,6,8,9,10,11,12,13,28]
def res (r:Int):D×List D:=(.lit (.int .i64 r),[])
def C (x0 x1:api_Row) (x2:List Int) (r:Int):Prop:=Ret env 64 [.agg [.lit (.int .i64 x0.ID),.sl (x0.Values.map Aa3)],.agg [.lit (.int .i64 x1.ID),.sl (x1.Values.map Aa3)],.sl (x2.map (eI .i64))] (res r).1 (res r).2
def L1 (x0 x1:api_Row) (x2:List Int) (z0:Int) (φ:Int->Prop):Prop:=Pt env 64 W B [1,0,1,0] [(0,.agg [.lit (.int .i64 x0.ID),.sl (x0.Values.map Aa3)]),(1,.agg [.lit (.int .i64 x1.ID),.sl (x1.Values.map Aa3)]),(2,.sl (x2.map (eI .i64))),(3,.box [.lit (.int .i64 x0.ID),.sl (x0.Values.map Aa3)]),(4,.box [.lit (.int .i64 x1.ID),.sl (x1.Values.map Aa3)]),(10,.sl (x2.map (eI .i64))),(11,.lit (.int .i64 ((x2.length:Int)))),(12,.lit (.int .i64 z0))] (Lv env 64 Tryz.f64 3 res φ)
theorem L1_step (x0 x1:api_Row) (x2:List Int) (z0:Int) (φ:Int->Prop) (h :
 (if z0<(x2.length:Int) then
 ∃ a1,lget x2 z0=some a1 /\
 ∃ a3,lget x0.Values a1=some a3 /\
 ∃ a5,lget x1.Values a1=some a5 /\
 ∃ r7:Int,q80_.C a3 a5 r7 /\
 (if r7=0 then
 q54_.L1 x0 x1 x2 ((IntKind.wrap .i64 (z0+1))) φ
 else
 φ r7)
 else
 φ 0)):L1 x0 x1 x2 z0 φ:=
 mIn <|
 mAsk 2 h dT dF (fun h=>
 mIx 4 (eI .i64) h fun a1 h2 h=>
 mIx 7 Aa3 h fun a3 h4 h=>
 mIx 4 Aa3 h fun a5 h6 h=>
 mCal 1 h (fun _ h=>h) fun r7 _ h=>
 Adn 4 h Acz Acy (fun h=>
 mRet 6 h) fun h=>
 mFin 7 h) fun h=>
 mRet 6 h
theorem enter (x0 x1:api_Row) (x2:List Int) (φ:Int->Prop) (h :
 q54_.L1 x0 x1 x2 0 φ):∃ r,φ r/\C x0 x1 x2 r:=
 mEnt (fd:=Tryz.f64) (body:=B) (V:=W) (res:=res) <|
 mLen 7 (eI .i64) x2 <|
 mFin 2 h
end q54_
namespace q82_
noncomputable def B:Code:=(Tryz.f33.body).getD .skip
def W:List Nat:=[0,1,2,3,4,5,6,7,8,19,26]
def res (r:Int):D×List D:=(.lit (.int .i64 r),[])
def C (x0 x1:api_Row) (x2:api_OD) (r:Int):Prop:=Ret env 33 [.agg [.lit (.int .i64 x0.ID),.sl (x0.Values.map Aa3)],.agg [.lit (.int .i64 x1.ID),.sl (x1.Values.map Aa3)],.agg [.sl (x2.Lhs.map (eI .i64)),.sl (x2.Rhs.map (eI .i64))]] (res r).1 (res r).2
def L1 (r1 r2:Int) (φ:Int->Prop):Prop:=Pt env 33 W B [1,1,0,0,1,1,0] [(7,.lit (.int .i64 r1)),(8,.lit (.int .i64 r2))] (Lv env 33 Tryz.f33 3 res φ)
theorem L1_step (r1 r2:Int) (φ:Int->Prop) (h :
 (if (IntKind.wrap .i64 (r1*r2))<0 then
 φ 2
 else
 φ 0)):L1 r1 r2 φ:=
 mIn <|
 mCon 7 h dT dF (fun h=>
 mRet 3 h) fun h=>
 mRet 4 h
theorem enter (x0 x1:api_Row) (x2:api_OD) (φ:Int->Prop) (h :
 ∃ r1:Int,q54_.C x0 x1 x2.Lhs r1 /\
 ∃ r2:Int,q54_.C x0 x1 x2.Rhs r2 /\
 (if r1=0 then
 (if r2=0 then
 q82_.L1 r1 r2 φ
 else
 φ 1)
 else
 q82_.L1 r1 r2 φ)):∃ r,φ r/\C x0 x1 x2 r:=
 mEnt (fd:=Tryz.f33) (body:=B) (V:=W) (res:=res) <|
 mLo 11 h (fun _ h=>h) fun r1 _ h=>
 mCal 4 h (fun _ h=>h) fun r2 _ h=>
 mAsk 5 h Aax Aaw (fun h=>
 Atp 6 h Acz Acy (fun h=>
 mRet 3 h) fun h=>
 mFin 0 h) fun h=>
 mFin 7 h
end q82_
namespace q67_
noncomputable def B:Code:=(Tryz.f83.body).getD .skip
def W:List Nat:=[0,1,3]
def res (r:Bool):D×List D:=(.lit (.bool r),[])
def C (x0 k1_0:Int) (r:Bool):Prop:=Ret env 83 [.lit (.int .i64 x0),.ref [.lit (.int .i64 k1_0)]] (res r).1 (res r).2
theorem enter (x0 k1_0:Int) (φ:Bool->Prop) (h :
 (if x0<0 then
 φ true
 else
 φ ((decide (k1_0<=x0))))):∃ r,φ r/\C x0 k1_0 r:=
 mEnt (fd:=Tryz.f83) (body:=B) (V:=W) (res:=res) <|
 mAsk 5 h dT dF (fun h=>
 mRet 7 h) fun h=>
 mRet 7 h
end q67_
namespace q25_
noncomputable def B:Code:=(Tryz.f82.body).getD .skip
def W:List Nat:=[0,1,4,5,7,8,9,16]
def res (r:Int):D×List D:=(.lit (.int .i64 r),[])
def C (x0:List Int) (k1_0 r:Int):Prop:=Ret env 82 [.sl (x0.map (eI .i64)),.fn 83 [.ref [.lit (.int .i64 k1_0)]]] (res r).1 (res r).2
def L1 (x0:List Int) (k1_0 z0:Int) (φ:Int->Prop):Prop:=Pt env 82 W B [1,0,1,0] [(0,.sl (x0.map (eI .i64))),(1,.fn 83 [.ref [.lit (.int .i64 k1_0)]]),(7,.lit (.int .i64 ((x0.length:Int)))),(8,.lit (.int .i64 z0))] (Lv env 82 Tryz.f82 2 res φ)
theorem L1_step (x0:List Int) (k1_0 z0:Int) (φ:Int->Prop) (h :
 (if z0<(x0.length:Int) then
 ∃ a1,lget x0 z0=some a1 /\
 ∃ r3:Bool,q67_.C a1 k1_0 r3 /\
 (if r3=true then
 φ z0
 else
 q25_.L1 x0 k1_0 ((IntKind.wrap .i64 (z0+1))) φ)
 else
 φ ((-1)))):L1 x0 k1_0 z0 φ:=
 mIn <|
 mAsk 2 h dT dF (fun h=>
 mIx 11 (eI .i64) h fun a1 h2 h=>
 Aba 1 h (fun _ h=>h) (fun _ h=>
 mRet 6 h) fun _ h=>
 mFin 7 h) fun h=>
 mRet 6 h
theorem enter (x0:List Int) (k1_0:Int) (φ:Int->Prop) (h :
 q25_.L1 x0 k1_0 0 φ):∃ r,φ r/\C x0 k1_0 r:=
 mEnt (fd:=Tryz.f82) (body:=B) (V:=W) (res:=res) <|
 mLen 5 (eI .i64) x0 <|
 mFin 2 h
end q25_
namespace q23_
noncomputable def B:Code:=(Tryz.f61.body).getD .skip
def W:List Nat:=[0,1,4]
def res (r:Bool):D×List D:=(.lit (.bool r),[])
def C (x0:List Int) (k1_0:Int) (r:Bool):Prop:=Ret env 61 [.sl (x0.map (eI .i64)),.fn 83 [.ref [.lit (.int .i64 k1_0)]]] (res r).1 (res r).2
theorem enter (x0:List Int) (k1_0:Int) (φ:Bool->Prop) (h :
 ∃ r1:Int,q25_.C x0 k1_0 r1 /\
 φ ((decide (0<=r1)))):∃ r,φ r/\C x0 k1_0 r:=
 mEnt (fd:=Tryz.f61) (body:=B) (V:=W) (res:=res) <|
 mCal 6 h (fun _ h=>h) fun r1 _ h=>
 mRet 3 h
end q23_
namespace q83_
noncomputable def B:Code:=(Tryz.f63.body).getD .skip
def W:List Nat:=[0,1,2,4]
def res (r:Bool):D×List D:=(.lit (.bool r),[])
def C (x0:Int) (x1:List Int) (r:Bool):Prop:=Ret env 63 [.lit (.int .i64 x0),.sl (x1.map (eI .i64))] (res r).1 (res r).2
theorem enter (x0:Int) (x1:List Int) (φ:Bool->Prop) (h :
 (if (x1.length:Int)<=8 then
 ∃ r1:Bool,q23_.C x1 x0 r1 /\
 φ ((not r1))
 else
 φ false)):∃ r,φ r/\C x0 x1 r:=
 mEnt (fd:=Tryz.f63) (body:=B) (V:=W) (res:=res) <|
 mLen 6 (eI .i64) x1 <|
 mAsk 0 h dT dF (fun h=>
 mCal 3 h (fun _ h=>h) fun r1 _ h=>
 mRet 4 h) fun h=>
 mRet 8 h
end q83_
namespace q71_
noncomputable def B:Code:=(Tryz.f32.body).getD .skip
def W:List Nat:=[0,1,3,4]
def res (r:Bool):D×List D:=(.lit (.bool r),[])
def C (x0:Int) (x1:api_OD) (r:Bool):Prop:=Ret env 32 [.lit (.int .i64 x0),.agg [.sl (x1.Lhs.map (eI .i64)),.sl (x1.Rhs.map (eI .i64))]] (res r).1 (res r).2
theorem enter (x0:Int) (x1:api_OD) (φ:Bool->Prop) (h :
 ∃ r1:Bool,q83_.C x0 x1.Lhs r1 /\
 (if r1=true then
 ∃ r2:Bool,q83_.C x0 x1.Rhs r2 /\
 φ r2
 else
 φ false)):∃ r,φ r/\C x0 x1 r:=
 mEnt (fd:=Tryz.f32) (body:=B) (V:=W) (res:=res) <|
 Aba 8 h (fun _ h=>h) (fun _ h=>
 mCal 4 h (fun _ h=>h) fun r2 _ h=>
 mRet 3 h) fun _ h=>
 mRet 8 h
end q71_
namespace q38_
noncomputable def B:Code:=(Tryz.f104.body).getD .skip
def W:List Nat:=[0,1,4,5,7,8,9,16]
def res (r:Int):D×List D:=(.lit (.int .i64 r),[])
def C (x0:List Int) (x1 r:Int):Prop:=Ret env 104 [.sl (x0.map (eI .i64)),.lit (.int .i64 x1)] (res r).1 (res r).2
def L1 (x0:List Int) (x1 z0:Int) (φ:Int->Prop):Prop:=Pt env 104 W B [1,0,1,0] [(0,.sl (x0.map (eI .i64))),(1,.lit (.int .i64 x1)),(7,.lit (.int .i64 ((x0.length:Int)))),(8,.lit (.int .i64 z0))] (Lv env 104 Tryz.f104 2 res φ)
theorem L1_step (x0:List Int) (x1 z0:Int) (φ:Int->Prop) (h :
 (if z0<(x0.length:Int) then
 ∃ a1,lget x0 z0=some a1 /\
 (if x1=a1 then
 φ z0
 else
 q38_.L1 x0 x1 ((IntKind.wrap .i64 (z0+1))) φ)
 else
 φ ((-1)))):L1 x0 x1 z0 φ:=
 mIn <|
 mAsk 2 h dT dF (fun h=>
 mIx 11 (eI .i64) h fun a1 h2 h=>
 mAsk 1 h Aax Aaw (fun h=>
 mRet 6 h) fun h=>
 mFin 7 h) fun h=>
 mRet 6 h
theorem enter (x0:List Int) (x1:Int) (φ:Int->Prop) (h :
 q38_.L1 x0 x1 0 φ):∃ r,φ r/\C x0 x1 r:=
 mEnt (fd:=Tryz.f104) (body:=B) (V:=W) (res:=res) <|
 mLen 5 (eI .i64) x0 <|
 mFin 2 h
end q38_
namespace q33_
noncomputable def B:Code:=(Tryz.f85.body).getD .skip
def W:List Nat:=[0,1,4]
def res (r:Bool):D×List D:=(.lit (.bool r),[])
def C (x0:List Int) (x1:Int) (r:Bool):Prop:=Ret env 85 [.sl (x0.map (eI .i64)),.lit (.int .i64 x1)] (res r).1 (res r).2
theorem enter (x0:List Int) (x1:Int) (φ:Bool->Prop) (h :
 ∃ r1:Int,q38_.C x0 x1 r1 /\
 φ ((decide (0<=r1)))):∃ r,φ r/\C x0 x1 r:=
 mEnt (fd:=Tryz.f85) (body:=B) (V:=W) (res:=res) <|
 mCal 6 h (fun _ h=>h) fun r1 _ h=>
 mRet 3 h
end q33_
namespace q84_
noncomputable def B:Code:=(Tryz.f65.body).getD .skip
def W:List Nat:=[0,2,3,5,6,7,8,9,15]
def res (r:List Int):D×List D:=(.own (r.map (eI .i64)),[])
def C (x0 r:List Int):Prop:=Ret env 65 [.sl (x0.map (eI .i64))] (res r).1 (res r).2
def L1 (x0 z0:List Int) (z1:Int) (φ:List Int->Prop):Prop:=Pt env 65 W B [1,1,0,1,0] [(0,.sl (x0.map (eI .i64))),(3,.own (z0.map (eI .i64))),(6,.sl (x0.map (eI .i64))),(7,.lit (.int .i64 ((x0.length:Int)))),(8,.lit (.int .i64 z1))] (Lv env 65 Tryz.f65 1 res φ)
def L2 (x0 z0:List Int) (z1:Int) (φ:List Int->Prop):Prop:=Pt env 65 W B [1,1,0,1,0,0,1,1,1] [(0,.sl (x0.map (eI .i64))),(3,.own (z0.map (eI .i64))),(6,.sl (x0.map (eI .i64))),(7,.lit (.int .i64 ((x0.length:Int)))),(8,.lit (.int .i64 z1))] (Lv env 65 Tryz.f65 1 res φ)
theorem L1_step (x0 z0:List Int) (z1:Int) (φ:List Int->Prop) (h :
 (if z1<(x0.length:Int) then
 ∃ a1,lget x0 z1=some a1 /\
 ∃ r3:Bool,q33_.C z0 a1 r3 /\
 (if r3=true then
 q84_.L2 x0 z0 z1 φ
 else
 (z0.length+1)*8<=140737488355328 /\
 q84_.L2 x0 ((z0++[a1])) z1 φ)
 else
 φ z0)):L1 x0 z0 z1 φ:=
 mIn <|
 mAsk 2 h dT dF (fun h=>
 mIx 4 (eI .i64) h fun a1 h2 h=>
 Aba 6 h (fun _ h=>h) (hr:=by exact (Akn (Anz (s:=3) (ps:=[]) (l:=z0) (e:=(eI .i64)) (e':=(eI .i64)) (fun _=>rfl) (by kernel_rfl)) (pr_k Aqp))) (fun _ h=>
 mFin 4 h) fun _ h=>
 mApp 7 (eI .i64) z0 ([a1]) h fun h=>
 mFin 2 h) fun h=>
 mRet 7 h
theorem L2_step (x0 z0:List Int) (z1:Int) (φ:List Int->Prop) (h :
 q84_.L1 x0 z0 ((IntKind.wrap .i64 (z1+1))) φ):L2 x0 z0 z1 φ:=
 mIn <|
 mFin 4 h
theorem enter (x0:List Int) (φ:List Int->Prop) (h :
 q84_.L1 x0 ([]) 0 φ):∃ r,φ r/\C x0 r:=
 mEnt (fd:=Tryz.f65) (body:=B) (V:=W) (res:=res) <|
 mLen 8 (eI .i64) x0 <|
 mFin 2 h
end q84_
namespace q45_
noncomputable def B:Code:=(Tryz.f23.body).getD .skip
def W:List Nat:=[0,1,4,5,6,18]
def res (r:List Int):D×List D:=(.own (r.map (eI .i64)),[])
def C (x0:Int) (x1 r:List Int):Prop:=Ret env 23 [.lit (.int .i64 x0),.sl (x1.map (eI .u8))] (res r).1 (res r).2
def L1 (x0:Int) (x1 z0:List Int) (z1:Int) (φ:List Int->Prop):Prop:=Pt env 23 W B [1,1,0,1,0] [(0,.lit (.int .i64 x0)),(1,.sl (x1.map (eI .u8))),(5,.own (z0.map (eI .i64))),(6,.lit (.int .i64 z1))] (Lv env 23 Tryz.f23 2 res φ)
theorem L1_step (x0:Int) (x1 z0:List Int) (z1:Int) (φ:List Int->Prop) (h :
 (if z1<(x1.length:Int) then
 (if z1<5 then
 (if 0<x0 then
 ∃ a1,lget x1 z1=some a1 /\
 ¬ x0=0 /\
 (z0.length+1)*8<=140737488355328 /\
 q45_.L1 x0 x1 ((z0++[(Int.tmod (IntKind.wrap .i64 a1) x0)])) ((IntKind.wrap .i64 (z1+1))) φ
 else
 φ z0)
 else
 φ z0)
 else
 φ z0)):L1 x0 x1 z0 z1 φ:=
 mIn <|
 mLen 4 (eI .u8) x1 <|
 mAsk 0 h dT dF (fun h=>
 mAsk 2 h dT dF (fun h=>
 mAsk 3 h dT dF (fun h=>
 mIx 8 (eI .u8) h fun a1 h2 h=>
 h.elim fun h3 h=>
 mBi 3 (Awd (t:=3) (q:=.i64) (i1:=(IntKind.wrap .i64 a1)) h3) <|
 mApp 1 (eI .i64) z0 ([(Int.tmod (IntKind.wrap .i64 a1) x0)]) h fun h=>
 mFin 7 h) fun h=>
 mRet 8 h) fun h=>
 mRet 12 h) fun h=>
 mRet 15 h
theorem enter (x0:Int) (x1:List Int) (φ:List Int->Prop) (h :
 q45_.L1 x0 x1 ([]) 0 φ):∃ r,φ r/\C x0 x1 r:=
 mEnt (fd:=Tryz.f23) (body:=B) (V:=W) (res:=res) <|
 mFin 9 h
end q45_
namespace q85_
noncomputable def B:Code:=(Tryz.f7.body).getD .skip
def W:List Nat:=[0,1,3,4]
def res (r:api_OD):D×List D:=(.agg [.own (r.Lhs.map (eI .i64)),.own (r.Rhs.map (eI .i64))],[])
def C (x0:Int) (x1:drossref17_Lists) (r:api_OD):Prop:=Ret env 7 [.lit (.int .i64 x0),.agg [.sl (x1.X.map (eI .u8)),.sl (x1.Y.map (eI .u8))]] (res r).1 (res r).2
theorem enter (x0:Int) (x1:drossref17_Lists) (φ:api_OD->Prop) (h :
 ∃ r1:List Int,q45_.C x0 x1.X r1 /\
 ∃ r2:List Int,q45_.C x0 x1.Y r2 /\
 φ ((⟨r1,r2⟩:api_OD))):∃ r,φ r/\C x0 x1 r:=
 mEnt (fd:=Tryz.f7) (body:=B) (V:=W) (res:=res) <|
 mLo 8 h (fun _ h=>h) (hf:=(fun _=>Abm (Ab9 (e:=(eI .i64)) (fun _=>rfl)))) fun r1 _ h=>
 mCal 3 h (fun _ h=>h) (hf:=(fun _=>Ac4 (Ab9 (e:=(eI .i64)) (fun _=>rfl)) rfl)) fun r2 _ h=>
 mRet 3 h
end q85_
namespace q94_
noncomputable def B:Code:=(Tryz.f108.body).getD .skip
def W:List Nat:=[0,1,3,4,7]
def res (r:api_Value):D×List D:=(.agg [.lit (.int .i64 r.Kind),.lit (.int .i64 r.Num),.lit (.string r.Str)],[])
def C (x0:List api_Row) (x1:api_Term) (r:api_Value):Prop:=Ret env 108 [.sl (x0.map Aa2),.agg [.lit (.int .i64 x1.Var),.lit (.int .i64 x1.Attr),.lit (.int .i64 x1.Value.Kind),.lit (.int .i64 x1.Value.Num),.lit (.string x1.Value.Str)]] (res r).1 (res r).2
theorem enter (x0:List api_Row) (x1:api_Term) (φ:api_Value->Prop) (h :
 (if x1.Var=0 then
 φ x1.Value
 else
 ∃ a1,lget x0 ((IntKind.wrap .i64 (x1.Var-1)))=some a1 /\
 ∃ a3,lget a1.Values x1.Attr=some a3 /\
 φ a3)):∃ r,φ r/\C x0 x1 r:=
 mEnt (fd:=Tryz.f108) (body:=B) (V:=W) (res:=res) <|
 mAsk 7 h Aax Aaw (fun h=>
 mRet 7 h) fun h=>
 mIx 8 Aa2 h fun a1 h2 h=>
 mIx 4 Aa3 h fun a3 h4 h=>
 mRet 3 h
end q94_
namespace q55_
noncomputable def B:Code:=(Tryz.f87.body).getD .skip
def W:List Nat:=[0,1,4,6,7,8,9,10,11,12,25,26,30,34,38,43]
def res (r:Bool):D×List D:=(.lit (.bool r),[])
def C (x0:List api_Row) (x1:List api_Atom) (r:Bool):Prop:=Ret env 87 [.sl (x0.map Aa2),.sl (x1.map Aa4)] (res r).1 (res r).2
def L1 (x0:List api_Row) (x1:List api_Atom) (z0:Int) (φ:Bool->Prop):Prop:=Pt env 87 W B [1,0,1,0] [(0,.sl (x0.map Aa2)),(1,.sl (x1.map Aa4)),(9,.sl (x1.map Aa4)),(10,.lit (.int .i64 ((x1.length:Int)))),(11,.lit (.int .i64 z0))] (Lv env 87 Tryz.f87 2 res φ)
def L2 (x0:List api_Row) (x1:List api_Atom) (z0:Bool) (z1:Int) (φ:Bool->Prop):Prop:=Pt env 87 W B [1,0,1,0,0,1,1,0,0,1,1,1,1,0] [(0,.sl (x0.map Aa2)),(1,.sl (x1.map Aa4)),(8,.lit (.bool z0)),(9,.sl (x1.map Aa4)),(10,.lit (.int .i64 ((x1.length:Int)))),(11,.lit (.int .i64 z1))] (Lv env 87 Tryz.f87 2 res φ)
theorem L1_step (x0:List api_Row) (x1:List api_Atom) (z0:Int) (φ:Bool->Prop) (h :
 (if z0<(x1.length:Int) then
 ∃ a1,lget x1 z0=some a1 /\
 ∃ r3:api_Value,q94_.C x0 a1.Left r3 /\
 ∃ r4:api_Value,q94_.C x0 a1.Right r4 /\
 ∃ r5:Int,q80_.C r3 r4 r5 /\
 (if a1.Op=1 then
 q55_.L2 x0 x1 ((r5 == 0)) z0 φ
 else
 (if a1.Op=2 then
 q55_.L2 x0 x1 ((r5 != 0)) z0 φ
 else
 (if a1.Op=3 then
 q55_.L2 x0 x1 ((decide (r5<0))) z0 φ
 else
 (if a1.Op=4 then
 q55_.L2 x0 x1 ((decide (r5<=0))) z0 φ
 else
 q55_.L2 x0 x1 false z0 φ))))
 else
 φ true)):L1 x0 x1 z0 φ:=
 mIn <|
 mAsk 2 h dT dF (fun h=>
 mIx 4 Aa4 h fun a1 h2 h=>
 mLo 8 h (fun _ h=>h) (hf:=(fun _=>Abm (Ab1 (Aa1 rfl (Aa1 rfl (Aa1 rfl Aag)))))) fun r3 _ h=>
 mCal 3 h (fun _ h=>h) (hf:=(fun _=>Ac4 (Ab1 (Aa1 rfl (Aa1 rfl (Aa1 rfl Aag)))) rfl)) fun r4 _ h=>
 mCal 0 h (fun _ h=>h) fun r5 _ h=>
 mCon 13 h Aax Aaw (fun h=>
 mFin 5 h) fun h=>
 mCon 4 h Aax Aaw (fun h=>
 mFin 5 h) fun h=>
 mCon 4 h Aax Aaw (fun h=>
 mFin 5 h) fun h=>
 mCon 4 h Aax Aaw (fun h=>
 mFin 5 h) fun h=>
 mFin 1 h) fun h=>
 mRet 6 h
theorem L2_step (x0:List api_Row) (x1:List api_Atom) (z0:Bool) (z1:Int) (φ:Bool->Prop) (h :
 (if z0=true then
 q55_.L1 x0 x1 ((IntKind.wrap .i64 (z1+1))) φ
 else
 φ false)):L2 x0 x1 z0 z1 φ:=
 mIn <|
 mAsk 1 h id fls (fun h=>
 mFin 8 h) fun h=>
 mRet 6 h
theorem enter (x0:List api_Row) (x1:List api_Atom) (φ:Bool->Prop) (h :
 q55_.L1 x0 x1 0 φ):∃ r,φ r/\C x0 x1 r:=
 mEnt (fd:=Tryz.f87) (body:=B) (V:=W) (res:=res) <|
 mLen 5 Aa4 x1 <|
 mFin 2 h
end q55_
namespace q72_
noncomputable def B:Code:=(Tryz.f116.body).getD .skip
def W:List Nat:=[0,1,4]
def res (r:Bool):D×List D:=(.lit (.bool r),[])
def C (x0 x1:Int) (r:Bool):Prop:=Ret env 116 [.lit (.int .i64 x0),.lit (.int .i64 x1)] (res r).1 (res r).2
theorem enter (x0 x1:Int) (φ:Bool->Prop) (h :
 ∃ r1:Bool,q62_.C x0 r1 /\
 (if r1=true then
 ∃ r2:Bool,q62_.C x1 r2 /\
 (if r2=true then
 φ ((decide (x0<x1)))
 else
 φ true)
 else
 φ ((decide (x0<x1))))):∃ r,φ r/\C x0 x1 r:=
 mEnt (fd:=Tryz.f116) (body:=B) (V:=W) (res:=res) <|
 Aba 5 h (fun _ h=>h) (fun _ h=>
 Aba 2 h (fun _ h=>h) (fun _ h=>
 mRet 9 h) fun _ h=>
 mRet 9 h) fun _ h=>
 mRet 12 h
end q72_
namespace q27_
noncomputable def B:Code:=(Tryz.f110.body).getD .skip
def W:List Nat:=[0,1,2,6,7,12,30,1000000]
def res (r:List Int):D×List D:=(.tup [],[.own (r.map (eI .i64))])
def C (x1 x2:Int) (k0_0 r:List Int):Prop:=Ret env 110 [.own (k0_0.map (eI .i64)),.lit (.int .i64 x1),.lit (.int .i64 x2)] (res r).1 (res r).2
def L1 (x1 x2 z0:Int) (k0_0:List Int) (φ:List Int->Prop):Prop:=Pt env 110 W B [1,0] [(0,.alias 1000000 []),(1,.lit (.int .i64 x1)),(2,.lit (.int .i64 x2)),(6,.lit (.int .i64 z0)),(1000000,.own (k0_0.map (eI .i64)))] (Lv env 110 Tryz.f110 3 res φ)
def L2 (x1 x2:Int) (z0 z1:Int) (k0_0:List Int) (φ:List Int->Prop):Prop:=Pt env 110 W B [1,0,0,1,0,0,1,0] [(0,.alias 1000000 []),(1,.lit (.int .i64 x1)),(2,.lit (.int .i64 x2)),(6,.lit (.int .i64 z0)),(7,.lit (.int .i64 z1)),(1000000,.own (k0_0.map (eI .i64)))] (Lv env 110 Tryz.f110 3 res φ)
def L3 (x1 x2 z0:Int) (k0_0:List Int) (φ:List Int->Prop):Prop:=Pt env 110 W B [1,0,0,1,1] [(0,.alias 1000000 []),(1,.lit (.int .i64 x1)),(2,.lit (.int .i64 x2)),(6,.lit (.int .i64 z0)),(1000000,.own (k0_0.map (eI .i64)))] (Lv env 110 Tryz.f110 3 res φ)
theorem L1_step (x1 x2 z0:Int) (k0_0:List Int) (φ:List Int->Prop) (h :
 (if z0<x2 then
 q27_.L2 x1 x2 z0 z0 k0_0 φ
 else
 φ k0_0)):L1 x1 x2 z0 k0_0 φ:=
 mIn <|
 mAsk 4 h dT dF (fun h=>
 mFin 7 h) fun h=>
 mRet 2 h
theorem L2_step (x1 x2:Int) (z0 z1:Int) (k0_0:List Int) (φ:List Int->Prop) (h :
 (if x1<z1 then
 ∃ a1,lget k0_0 z1=some a1 /\
 ∃ a3,lget k0_0 ((IntKind.wrap .i64 (z1-1)))=some a3 /\
 ∃ r5:Bool,q72_.C a1 a3 r5 /\
 (if r5=true then
 ∃ a6,lget ((lset k0_0 z1 a3)) ((IntKind.wrap .i64 (z1-1)))=some a6 /\
 q27_.L2 x1 x2 z0 ((IntKind.wrap .i64 (z1-1))) ((lset (lset k0_0 z1 a3) (IntKind.wrap .i64 (z1-1)) a1)) φ
 else
 q27_.L3 x1 x2 z0 k0_0 φ)
 else
 q27_.L3 x1 x2 z0 k0_0 φ)):L2 x1 x2 z0 z1 k0_0 φ:=
 mIn <|
 mAsk 4 h dT dF (fun h=>
 mIy 3 (eI .i64) h fun a1 h2 h=>
 mLd 0 (eI .i64) h2 <|
 mIy 3 (eI .i64) h fun a3 h4 h=>
 mLd 0 (eI .i64) h4 <|
 Aba 0 h (fun _ h=>h) (fun _ h=>
 mIyf 13 (eI .i64) h4 <|
 mLd 0 (eI .i64) h4 <|
 mIyf 2 (eI .i64) h2 <|
 mLd 0 (eI .i64) h2 <|
 mIyf 0 (eI .i64) h2 <|
 Bh2 0 (eI .i64) a3 h2 <|
 mIy 0 (eI .i64) h fun a6 h7 h=>
 mSto 0 (eI .i64) a1 h7 <|
 mFin 6 h) fun _ h=>
 mFin 4 h) fun h=>
 mFin 15 h
theorem L3_step (x1 x2 z0:Int) (k0_0:List Int) (φ:List Int->Prop) (h :
 q27_.L1 x1 x2 ((IntKind.wrap .i64 (z0+1))) k0_0 φ):L3 x1 x2 z0 k0_0 φ:=
 mIn <|
 mFin 5 h
theorem enter (x1 x2:Int) (k0_0:List Int) (φ:List Int->Prop) (h :
 q27_.L1 x1 x2 ((IntKind.wrap .i64 (x1+1))) k0_0 φ):∃ r,φ r/\C x1 x2 k0_0 r:=
 mEnt (fd:=Tryz.f110) (body:=B) (V:=W) (res:=res) <|
 mFin 5 h
end q27_
namespace q32_
noncomputable def B:Code:=(Tryz.f91.body).getD .skip
def W:List Nat:=[0,1,2,3,8,9,10,11,12,13,14,15,16,17,18,23,29,35,50,68,72,87,113,1000000]
def res (r:List Int):D×List D:=(.tup [],[.own (r.map (eI .i64))])
def C (x1 x2 x3:Int) (k0_0 r:List Int):Prop:=Ret env 91 [.own (k0_0.map (eI .i64)),.lit (.int .i64 x1),.lit (.int .i64 x2),.lit (.int .i64 x3)] (res r).1 (res r).2
def L1 (x1 x2 x3:Int) (k0_0:List Int) (φ:List Int->Prop):Prop:=Pt env 91 W B [1,1,0] [(0,.alias 1000000 []),(1,.lit (.int .i64 x1)),(2,.lit (.int .i64 x2)),(3,.lit (.int .i64 x3)),(8,.lit (.bool true)),(9,.lit (.bool true)),(1000000,.own (k0_0.map (eI .i64)))] (Lv env 91 Tryz.f91 4 res φ)
theorem L1_step (x1 x2 x3:Int) (k0_0:List Int) (φ:List Int->Prop) (h :
 (if (IntKind.wrap .i64 (x2-x1))<=12 then
 ∃ r1:List Int,q27_.C x1 x2 k0_0 r1 /\
 φ r1
 else
 (if x3=0 then
 False
 else
 False))):L1 x1 x2 x3 k0_0 φ:=
 mIn <|
 mAsk 9 h dT dF (fun h=>
 mCal 6 h (fun _ h=>h) (hf:=(fun _=>As7 (Afx Aag) (Ab9 (e:=(eI .i64)) (fun _=>rfl)))) fun r1 _ h=>
 mRet 1 h) fun h=>
 mAsk 5 h Aax Aaw (fun h=>
 h.elim) fun h=>
 h.elim
theorem enter (x1 x2 x3:Int) (k0_0:List Int) (φ:List Int->Prop) (h :
 q32_.L1 x1 x2 x3 k0_0 φ):∃ r,φ r/\C x1 x2 x3 k0_0 r:=
 mEnt (fd:=Tryz.f91) (body:=B) (V:=W) (res:=res) <|
 mFin 6 h
end q32_
namespace q34_
noncomputable def B:Code:=(Tryz.f69.body).getD .skip
def W:List Nat:=[0,2,1000000]
def res (r:List Int):D×List D:=(.tup [],[.own (r.map (eI .i64))])
def C (k0_0 r:List Int):Prop:=Ret env 69 [.own (k0_0.map (eI .i64))] (res r).1 (res r).2
theorem enter (k0_0:List Int) (φ:List Int->Prop) (h :
 ∃ r1:Int,q78_.C ((IntKind.wrap .u64 (k0_0.length:Int))) r1 /\
 ∃ r2:List Int,q32_.C 0 ((k0_0.length:Int)) r1 k0_0 r2 /\
 φ r2):∃ r,φ r/\C k0_0 r:=
 mEnt (fd:=Tryz.f69) (body:=B) (V:=W) (res:=res) <|
 mLen 2 (eI .i64) k0_0 <|
 mCal 7 h (fun _ h=>h) fun r1 _ h=>
 mCal 0 h (fun _ h=>h) (hf:=(fun _=>As7 (Afx Aag) (Ab9 (e:=(eI .i64)) (fun _=>rfl)))) fun r2 _ h=>
 mRet 0 h
end q34_
namespace q73_
noncomputable def B:Code:=(Tryz.f89.body).getD .skip
def W:List Nat:=[0,1,2,3]
def res (r:Bool):D×List D:=(.lit (.bool r),[])
def C (x0:api_Row) (k1_0:Int) (k1_1:List api_Value) (r:Bool):Prop:=Ret env 89 [.agg [.lit (.int .i64 x0.ID),.sl (x0.Values.map Aa3)],.ref [.lit (.int .i64 k1_0),.sl (k1_1.map Aa3)]] (res r).1 (res r).2
theorem enter (x0:api_Row) (k1_0:Int) (k1_1:List api_Value) (φ:Bool->Prop) (h :
 φ ((x0.ID == k1_0))):∃ r,φ r/\C x0 k1_0 k1_1 r:=
 mEnt (fd:=Tryz.f89) (body:=B) (V:=W) (res:=res) <|
 mRet 12 h
end q73_
namespace q21_
noncomputable def B:Code:=(Tryz.f109.body).getD .skip
def W:List Nat:=[0,1,4,5,7,8,9,16]
def res (r:Int):D×List D:=(.lit (.int .i64 r),[])
def C (x0:List api_Row) (k1_0:Int) (k1_1:List api_Value) (r:Int):Prop:=Ret env 109 [.sl (x0.map Aa2),.fn 89 [.ref [.lit (.int .i64 k1_0),.sl (k1_1.map Aa3)]]] (res r).1 (res r).2
def L1 (x0:List api_Row) (k1_0:Int) (k1_1:List api_Value) (z0:Int) (φ:Int->Prop):Prop:=Pt env 109 W B [1,0,1,0] [(0,.sl (x0.map Aa2)),(1,.fn 89 [.ref [.lit (.int .i64 k1_0),.sl (k1_1.map Aa3)]]),(7,.lit (.int .i64 ((x0.length:Int)))),(8,.lit (.int .i64 z0))] (Lv env 109 Tryz.f109 2 res φ)
theorem L1_step (x0:List api_Row) (k1_0:Int) (k1_1:List api_Value) (z0:Int) (φ:Int->Prop) (h :
 (if z0<(x0.length:Int) then
 ∃ a1,lget x0 z0=some a1 /\
 ∃ r3:Bool,q73_.C a1 k1_0 k1_1 r3 /\
 (if r3=true then
 φ z0
 else
 q21_.L1 x0 k1_0 k1_1 ((IntKind.wrap .i64 (z0+1))) φ)
 else
 φ ((-1)))):L1 x0 k1_0 k1_1 z0 φ:=
 mIn <|
 mAsk 2 h dT dF (fun h=>
 mIx 11 Aa2 h fun a1 h2 h=>
 Aba 1 h (fun _ h=>h) (fun _ h=>
 mRet 6 h) fun _ h=>
 mFin 7 h) fun h=>
 mRet 6 h
theorem enter (x0:List api_Row) (k1_0:Int) (k1_1:List api_Value) (φ:Int->Prop) (h :
 q21_.L1 x0 k1_0 k1_1 0 φ):∃ r,φ r/\C x0 k1_0 k1_1 r:=
 mEnt (fd:=Tryz.f109) (body:=B) (V:=W) (res:=res) <|
 mLen 5 Aa2 x0 <|
 mFin 2 h
end q21_
namespace q19_
noncomputable def B:Code:=(Tryz.f88.body).getD .skip
def W:List Nat:=[0,1,4]
def res (r:Bool):D×List D:=(.lit (.bool r),[])
def C (x0:List api_Row) (k1_0:Int) (k1_1:List api_Value) (r:Bool):Prop:=Ret env 88 [.sl (x0.map Aa2),.fn 89 [.ref [.lit (.int .i64 k1_0),.sl (k1_1.map Aa3)]]] (res r).1 (res r).2
theorem enter (x0:List api_Row) (k1_0:Int) (k1_1:List api_Value) (φ:Bool->Prop) (h :
 ∃ r1:Int,q21_.C x0 k1_0 k1_1 r1 /\
 φ ((decide (0<=r1)))):∃ r,φ r/\C x0 k1_0 k1_1 r:=
 mEnt (fd:=Tryz.f88) (body:=B) (V:=W) (res:=res) <|
 mCal 6 h (fun _ h=>h) fun r1 _ h=>
 mRet 3 h
end q19_
namespace q50_
def res (r:List (List Int)×Int):D×List D:=(.tup [.own (r.1.map (eSl (eI .i64))),.lit (.int .i64 r.2)],[])
def C (x0:api_Table) (x1:api_Denial) (r:List (List Int)×Int):Prop:=Ret env 39 [.agg [.lit (.string x0.Name),.sl (x0.Attrs.map eS),.sl (x0.Rows.map Aa2)],.agg [.lit (.int .i64 x1.Vars),.sl (x1.Atoms.map Aa4)]] (res r).1 (res r).2
end q50_
namespace q56_
noncomputable def B:Code:=(Tryz.f107.body).getD .skip
def W:List Nat:=[0,1,2,5,6,9]
def res (r:Bool):D×List D:=(.lit (.bool r),[])
def C (x0 x1:Int) (x2:api_Term) (r:Bool):Prop:=Ret env 107 [.lit (.int .i64 x0),.lit (.int .i64 x1),.agg [.lit (.int .i64 x2.Var),.lit (.int .i64 x2.Attr),.lit (.int .i64 x2.Value.Kind),.lit (.int .i64 x2.Value.Num),.lit (.string x2.Value.Str)]] (res r).1 (res r).2
theorem enter (x0 x1:Int) (x2:api_Term) (φ:Bool->Prop) (h :
 (if x2.Var=0 then
 (if x2.Attr=0 then
 ∃ r1:Bool,q90_.C x2.Value r1 /\
 φ r1
 else
 φ false)
 else
 (if 0<x2.Var then
 (if x2.Var<=x1 then
 (if 0<=x2.Attr then
 (if x2.Attr<x0 then
 φ ((and (x2.Value.Kind == 0) (and (x2.Value.Num == 0) (and (x2.Value.Str.toList == ((⟨#[]⟩:ByteArray)).toList) true))))
 else
 φ false)
 else
 φ false)
 else
 φ false)
 else
 φ false))):∃ r,φ r/\C x0 x1 x2 r:=
 mEnt (fd:=Tryz.f107) (body:=B) (V:=W) (res:=res) <|
 mAsk 7 h Aax Aaw (fun h=>
 mAsk 5 h Aax Aaw (fun h=>
 mCal 3 h (fun _ h=>h) fun r1 _ h=>
 mRet 3 h) fun h=>
 mRet 7 h) fun h=>
 mAsk 6 h dT dF (fun h=>
 mAsk 4 h dT dF (fun h=>
 mAsk 4 h dT dF (fun h=>
 mAsk 5 h dT dF (fun h=>
 mBi 5 (Awc (t:=80) (xs:=[.lit (.int .i64 x2.Value.Kind),.lit (.int .i64 x2.Value.Num),.lit (.string x2.Value.Str)]) (ys:=[.lit (.int .i64 0),.lit (.int .i64 0),.lit (.string ((⟨#[]⟩:ByteArray)))]) (l:=[(x2.Value.Kind == 0),(x2.Value.Num == 0),(x2.Value.Str.toList == ((⟨#[]⟩:ByteArray)).toList)])) <|
 mRet 3 h) fun h=>
 mRet 9 h) fun h=>
 mRet 15 h) fun h=>
 mRet 20 h) fun h=>
 mRet 25 h
end q56_
namespace q74_
noncomputable def B:Code:=(Tryz.f106.body).getD .skip
def W:List Nat:=[0,1,2,3,4]
def res (r:Bool):D×List D:=(.lit (.bool r),[])
def C (x0:api_Atom) (k1_0 k2_0:Int) (k2_1:List api_Atom) (r:Bool):Prop:=Ret env 106 [.agg [.lit (.int .i64 x0.Left.Var),.lit (.int .i64 x0.Left.Attr),.lit (.int .i64 x0.Left.Value.Kind),.lit (.int .i64 x0.Left.Value.Num),.lit (.string x0.Left.Value.Str),.lit (.int .i64 x0.Op),.lit (.int .i64 x0.Right.Var),.lit (.int .i64 x0.Right.Attr),.lit (.int .i64 x0.Right.Value.Kind),.lit (.int .i64 x0.Right.Value.Num),.lit (.string x0.Right.Value.Str)],.ref [.lit (.int .i64 k1_0)],.ref [.lit (.int .i64 k2_0),.sl (k2_1.map Aa4)]] (res r).1 (res r).2
theorem enter (x0:api_Atom) (k1_0 k2_0:Int) (k2_1:List api_Atom) (φ:Bool->Prop) (h :
 (if x0.Op<1 then
 φ true
 else
 (if 4<x0.Op then
 φ true
 else
 ∃ r1:Bool,q56_.C k1_0 k2_0 x0.Left r1 /\
 (if r1=true then
 ∃ r2:Bool,q56_.C k1_0 k2_0 x0.Right r2 /\
 φ ((not r2))
 else
 φ true)))):∃ r,φ r/\C x0 k1_0 k2_0 k2_1 r:=
 mEnt (fd:=Tryz.f106) (body:=B) (V:=W) (res:=res) <|
 mAsk 7 h dT dF (fun h=>
 mRet 25 h) fun h=>
 mAsk 3 h dT dF (fun h=>
 mRet 21 h) fun h=>
 Aba 7 h (fun _ h=>h) (fun _ h=>
 mCal 8 h (fun _ h=>h) fun r2 _ h=>
 mRet 4 h) fun _ h=>
 mRet 13 h
end q74_
namespace q20_
noncomputable def B:Code:=(Tryz.f135.body).getD .skip
def W:List Nat:=[0,1,4,5,7,8,9,16]
def res (r:Int):D×List D:=(.lit (.int .i64 r),[])
def C (x0:List api_Atom) (k1_0 k1_1:Int) (k1_2:List api_Atom) (r:Int):Prop:=Ret env 135 [.sl (x0.map Aa4),.fn 106 [.ref [.lit (.int .i64 k1_0)],.ref [.lit (.int .i64 k1_1),.sl (k1_2.map Aa4)]]] (res r).1 (res r).2
def L1 (x0:List api_Atom) (k1_0 k1_1:Int) (k1_2:List api_Atom) (z0:Int) (φ:Int->Prop):Prop:=Pt env 135 W B [1,0,1,0] [(0,.sl (x0.map Aa4)),(1,.fn 106 [.ref [.lit (.int .i64 k1_0)],.ref [.lit (.int .i64 k1_1),.sl (k1_2.map Aa4)]]),(7,.lit (.int .i64 ((x0.length:Int)))),(8,.lit (.int .i64 z0))] (Lv env 135 Tryz.f135 2 res φ)
theorem L1_step (x0:List api_Atom) (k1_0 k1_1:Int) (k1_2:List api_Atom) (z0:Int) (φ:Int->Prop) (h :
 (if z0<(x0.length:Int) then
 ∃ a1,lget x0 z0=some a1 /\
 ∃ r3:Bool,q74_.C a1 k1_0 k1_1 k1_2 r3 /\
 (if r3=true then
 φ z0
 else
 q20_.L1 x0 k1_0 k1_1 k1_2 ((IntKind.wrap .i64 (z0+1))) φ)
 else
 φ ((-1)))):L1 x0 k1_0 k1_1 k1_2 z0 φ:=
 mIn <|
 mAsk 2 h dT dF (fun h=>
 mIx 11 Aa4 h fun a1 h2 h=>
 Aba 1 h (fun _ h=>h) (fun _ h=>
 mRet 6 h) fun _ h=>
 mFin 7 h) fun h=>
 mRet 6 h
theorem enter (x0:List api_Atom) (k1_0 k1_1:Int) (k1_2:List api_Atom) (φ:Int->Prop) (h :
 q20_.L1 x0 k1_0 k1_1 k1_2 0 φ):∃ r,φ r/\C x0 k1_0 k1_1 k1_2 r:=
 mEnt (fd:=Tryz.f135) (body:=B) (V:=W) (res:=res) <|
 mLen 5 Aa4 x0 <|
 mFin 2 h
end q20_
namespace q18_
noncomputable def B:Code:=(Tryz.f105.body).getD .skip
def W:List Nat:=[0,1,4]
def res (r:Bool):D×List D:=(.lit (.bool r),[])
def C (x0:List api_Atom) (k1_0 k1_1:Int) (k1_2:List api_Atom) (r:Bool):Prop:=Ret env 105 [.sl (x0.map Aa4),.fn 106 [.ref [.lit (.int .i64 k1_0)],.ref [.lit (.int .i64 k1_1),.sl (k1_2.map Aa4)]]] (res r).1 (res r).2
theorem enter (x0:List api_Atom) (k1_0 k1_1:Int) (k1_2:List api_Atom) (φ:Bool->Prop) (h :
 ∃ r1:Int,q20_.C x0 k1_0 k1_1 k1_2 r1 /\
 φ ((decide (0<=r1)))):∃ r,φ r/\C x0 k1_0 k1_1 k1_2 r:=
 mEnt (fd:=Tryz.f105) (body:=B) (V:=W) (res:=res) <|
 mCal 6 h (fun _ h=>h) fun r1 _ h=>
 mRet 3 h
end q18_
namespace q89_
noncomputable def B:Code:=(Tryz.f86.body).getD .skip
def W:List Nat:=[0,1,2,3,4,18]
def res (r:Bool):D×List D:=(.lit (.bool r),[])
def C (x0:Int) (x1:api_Denial) (r:Bool):Prop:=Ret env 86 [.lit (.int .i64 x0),.agg [.lit (.int .i64 x1.Vars),.sl (x1.Atoms.map Aa4)]] (res r).1 (res r).2
theorem enter (x0:Int) (x1:api_Denial) (φ:Bool->Prop) (h :
 (if x1.Vars<1 then
 φ false
 else
 (if 3<x1.Vars then
 φ false
 else
 (if 20<(x1.Atoms.length:Int) then
 φ false
 else
 ∃ r1:Bool,q18_.C x1.Atoms x0 x1.Vars x1.Atoms r1 /\
 φ ((not r1)))))):∃ r,φ r/\C x0 x1 r:=
 mEnt (fd:=Tryz.f86) (body:=B) (V:=W) (res:=res) <|
 mAsk 8 h dT dF (fun h=>
 mRet 16 h) fun h=>
 mAsk 3 h dT dF (fun h=>
 mRet 12 h) fun h=>
 mLen 4 Aa4 x1.Atoms <|
 mAsk 0 h dT dF (fun h=>
 mRet 6 h) fun h=>
 mCal 8 h (fun _ h=>h) fun r1 _ h=>
 mRet 3 h
end q89_
namespace q75_
noncomputable def B:Code:=(Tryz.f66.body).getD .skip
def W:List Nat:=[0,1,2,3,4,5,9,11,18]
def res (r:Int):D×List D:=(.lit (.int .i64 r),[])
def C (x0:api_Table) (x1:api_Denial) (r:Int):Prop:=Ret env 66 [.agg [.lit (.string x0.Name),.sl (x0.Attrs.map eS),.sl (x0.Rows.map Aa2)],.agg [.lit (.int .i64 x1.Vars),.sl (x1.Atoms.map Aa4)]] (res r).1 (res r).2
theorem enter (x0:api_Table) (x1:api_Denial) (φ:Int->Prop) (h :
 ∃ r1:Int,q91_.C x0 r1 /\
 (if r1=0 then
 ∃ r2:Bool,q89_.C ((x0.Attrs.length:Int)) x1 r2 /\
 (if r2=true then
 (if x1.Vars=3 then
 (if 200<(x0.Rows.length:Int) then
 φ 3
 else
 φ 0)
 else
 φ 0)
 else
 φ 1)
 else
 φ r1)):∃ r,φ r/\C x0 x1 r:=
 mEnt (fd:=Tryz.f66) (body:=B) (V:=W) (res:=res) <|
 mCal 7 h (fun _ h=>h) fun r1 _ h=>
 Adn 4 h Acz Acy (fun h=>
 mRet 6 h) fun h=>
 mLen 6 eS x0.Attrs <|
 mCal 1 h (fun _ h=>h) fun r2 _ h=>
 Atp 3 h (fun h=>fls (Atr h)) (fun h=>id (Atq h)) (fun h=>
 mRet 3 h) fun h=>
 mAsk 3 h Aax Aaw (fun h=>
 mLen 3 Aa2 x0.Rows <|
 mCon 4 h dT dF (fun h=>
 mRet 3 h) fun h=>
 mRet 4 h) fun h=>
 mRet 13 h
end q75_
namespace q95_
noncomputable def B:Code:=(Tryz.f38.body).getD .skip
def W:List Nat:=[0,1,4]
def res (r:api_Term):D×List D:=(.agg [.lit (.int .i64 r.Var),.lit (.int .i64 r.Attr),.lit (.int .i64 r.Value.Kind),.lit (.int .i64 r.Value.Num),.lit (.string r.Value.Str)],[])
def C (x0 x1:Int) (r:api_Term):Prop:=Ret env 38 [.lit (.int .i64 x0),.lit (.int .i64 x1)] (res r).1 (res r).2
theorem enter (x0 x1:Int) (φ:api_Term->Prop) (h :
 φ ((⟨x0,x1,(⟨0,0,(⟨#[]⟩:ByteArray)⟩:api_Value)⟩:api_Term))):∃ r,φ r/\C x0 x1 r:=
 mEnt (fd:=Tryz.f38) (body:=B) (V:=W) (res:=res) <|
 mRet 9 h
end q95_
namespace q92_
noncomputable def B:Code:=(Tryz.f35.body).getD .skip
def W:List Nat:=[0,1,4]
def res (r:api_Atom):D×List D:=(.agg [.lit (.int .i64 r.Left.Var),.lit (.int .i64 r.Left.Attr),.lit (.int .i64 r.Left.Value.Kind),.lit (.int .i64 r.Left.Value.Num),.lit (.string r.Left.Value.Str),.lit (.int .i64 r.Op),.lit (.int .i64 r.Right.Var),.lit (.int .i64 r.Right.Attr),.lit (.int .i64 r.Right.Value.Kind),.lit (.int .i64 r.Right.Value.Num),.lit (.string r.Right.Value.Str)],[])
def C (x0 x1:Int) (r:api_Atom):Prop:=Ret env 35 [.lit (.int .i64 x0),.lit (.int .i64 x1)] (res r).1 (res r).2
theorem enter (x0 x1:Int) (φ:api_Atom->Prop) (h :
 ∃ r1:api_Term,q95_.C 1 x1 r1 /\
 ∃ r2:api_Term,q95_.C 2 x1 r2 /\
 φ ((⟨r1,x0,r2⟩:api_Atom))):∃ r,φ r/\C x0 x1 r:=
 mEnt (fd:=Tryz.f35) (body:=B) (V:=W) (res:=res) <|
 mCal 5 h (fun _ h=>h) (hf:=(fun _=>Ac4 (Ab1 (Aa1 rfl (Aa1 rfl (Aa1 rfl (Aa1 rfl (Aa1 rfl Aag)))))) rfl)) fun r1 _ h=>
 mCal 2 h (fun _ h=>h) (hf:=(fun _=>Ac4 (Ab1 (Aa1 rfl (Aa1 rfl (Aa1 rfl (Aa1 rfl (Aa1 rfl Aag)))))) rfl)) fun r2 _ h=>
 mRet 3 h
end q92_
namespace q43_
noncomputable def B:Code:=(Tryz.f59.body).getD .skip
def W:List Nat:=[0,1,2]
def res (r:Bool):D×List D:=(.lit (.bool r),[])
def C (x0:api_Cell) (r:Bool):Prop:=Ret env 59 [.agg [.lit (.bool x0.Any),.lit (.int .i64 x0.Value.Kind),.lit (.int .i64 x0.Value.Num),.lit (.string x0.Value.Str)]] (res r).1 (res r).2
theorem enter (x0:api_Cell) (φ:Bool->Prop) (h :
 (if x0.Any=true then
 (if (and (x0.Value.Kind == 0) (and (x0.Value.Num == 0) (and (x0.Value.Str.toList == ((⟨#[]⟩:ByteArray)).toList) true)))=true then
 (if x0.Any=true then
 φ false
 else
 ∃ r1:Bool,q90_.C x0.Value r1 /\
 φ ((not r1)))
 else
 φ true)
 else
 (if x0.Any=true then
 φ false
 else
 ∃ r2:Bool,q90_.C x0.Value r2 /\
 φ ((not r2))))):∃ r,φ r/\C x0 r:=
 mEnt (fd:=Tryz.f59) (body:=B) (V:=W) (res:=res) <|
 mAsk 6 h id fls (fun h=>
 Bbj 4 h (fun h=>fls (Atr h)) Atq (hd:=(Arc (t:=80) (xs:=[.lit (.int .i64 x0.Value.Kind),.lit (.int .i64 x0.Value.Num),.lit (.string x0.Value.Str)]) (ys:=[.lit (.int .i64 0),.lit (.int .i64 0),.lit (.string ((⟨#[]⟩:ByteArray)))]) (l:=[(x0.Value.Kind == 0),(x0.Value.Num == 0),(x0.Value.Str.toList == ((⟨#[]⟩:ByteArray)).toList)]))) (fun h=>
 mRet 14 h) fun h=>
 mAsk 3 h id fls (fun h=>
 mRet 10 h) fun h=>
 mCal 4 h (fun _ h=>h) fun r1 _ h=>
 mRet 5 h) fun h=>
 mAsk 8 h id fls (fun h=>
 mRet 10 h) fun h=>
 mCal 4 h (fun _ h=>h) fun r2 _ h=>
 mRet 5 h
end q43_
namespace q17_
noncomputable def B:Code:=(Tryz.f81.body).getD .skip
def W:List Nat:=[0,1,4,5,7,8,9,16]
def res (r:Int):D×List D:=(.lit (.int .i64 r),[])
def C (x0:List api_Cell) (r:Int):Prop:=Ret env 81 [.sl (x0.map Aa5),.fn 59 []] (res r).1 (res r).2
def L1 (x0:List api_Cell) (z0:Int) (φ:Int->Prop):Prop:=Pt env 81 W B [1,0,1,0] [(0,.sl (x0.map Aa5)),(1,.fn 59 []),(7,.lit (.int .i64 ((x0.length:Int)))),(8,.lit (.int .i64 z0))] (Lv env 81 Tryz.f81 2 res φ)
theorem L1_step (x0:List api_Cell) (z0:Int) (φ:Int->Prop) (h :
 (if z0<(x0.length:Int) then
 ∃ a1,lget x0 z0=some a1 /\
 ∃ r3:Bool,q43_.C a1 r3 /\
 (if r3=true then
 φ z0
 else
 q17_.L1 x0 ((IntKind.wrap .i64 (z0+1))) φ)
 else
 φ ((-1)))):L1 x0 z0 φ:=
 mIn <|
 mAsk 2 h dT dF (fun h=>
 mIx 11 Aa5 h fun a1 h2 h=>
 Aba 1 h (fun _ h=>h) (fun _ h=>
 mRet 6 h) fun _ h=>
 mFin 7 h) fun h=>
 mRet 6 h
theorem enter (x0:List api_Cell) (φ:Int->Prop) (h :
 q17_.L1 x0 0 φ):∃ r,φ r/\C x0 r:=
 mEnt (fd:=Tryz.f81) (body:=B) (V:=W) (res:=res) <|
 mLen 5 Aa5 x0 <|
 mFin 2 h
end q17_
namespace q10_
noncomputable def B:Code:=(Tryz.f58.body).getD .skip
def W:List Nat:=[0,1,4]
def res (r:Bool):D×List D:=(.lit (.bool r),[])
def C (x0:List api_Cell) (r:Bool):Prop:=Ret env 58 [.sl (x0.map Aa5),.fn 59 []] (res r).1 (res r).2
theorem enter (x0:List api_Cell) (φ:Bool->Prop) (h :
 ∃ r1:Int,q17_.C x0 r1 /\
 φ ((decide (0<=r1)))):∃ r,φ r/\C x0 r:=
 mEnt (fd:=Tryz.f58) (body:=B) (V:=W) (res:=res) <|
 mCal 6 h (fun _ h=>h) fun r1 _ h=>
 mRet 3 h
end q10_
namespace q51_
noncomputable def B:Code:=(Tryz.f25.body).getD .skip
def W:List Nat:=[0,1,3,4,5,7,34,36,37,38,39,55]
def res (r:Bool):D×List D:=(.lit (.bool r),[])
def C (x0:Int) (x1:api_CFD) (r:Bool):Prop:=Ret env 25 [.lit (.int .i64 x0),.agg [.sl (x1.Lhs.map (eI .i64)),.lit (.int .i64 x1.Rhs),.sl (x1.Pattern.map Aa5)]] (res r).1 (res r).2
def L1 (x0:Int) (x1:api_CFD) (z0 z1:Int) (φ:Bool->Prop):Prop:=Pt env 25 W B [1,1,1,0,1,0] [(0,.lit (.int .i64 x0)),(1,.agg [.sl (x1.Lhs.map (eI .i64)),.lit (.int .i64 x1.Rhs),.sl (x1.Pattern.map Aa5)]),(3,.box [.sl (x1.Lhs.map (eI .i64)),.lit (.int .i64 x1.Rhs),.sl (x1.Pattern.map Aa5)]),(5,.lit (.int .i64 z0)),(36,.sl (x1.Lhs.map (eI .i64))),(37,.lit (.int .i64 ((x1.Lhs.length:Int)))),(38,.lit (.int .i64 z1))] (Lv env 25 Tryz.f25 2 res φ)
theorem L1_step (x0:Int) (x1:api_CFD) (z0 z1:Int) (φ:Bool->Prop) (h :
 (if z1<(x1.Lhs.length:Int) then
 ∃ a1,lget x1.Lhs z1=some a1 /\
 (if a1<=z0 then
 φ false
 else
 (if x0<=a1 then
 φ false
 else
 (if a1=x1.Rhs then
 φ false
 else
 q51_.L1 x0 x1 a1 ((IntKind.wrap .i64 (z1+1))) φ)))
 else
 ∃ r3:Bool,q10_.C x1.Pattern r3 /\
 φ ((not r3)))):L1 x0 x1 z0 z1 φ:=
 mIn <|
 mAsk 2 h dT dF (fun h=>
 mIx 4 (eI .i64) h fun a1 h2 h=>
 mAsk 6 h dT dF (fun h=>
 mRet 16 h) fun h=>
 mAsk 3 h dT dF (fun h=>
 mRet 12 h) fun h=>
 mAsk 5 h Aax Aaw (fun h=>
 mRet 6 h) fun h=>
 mFin 12 h) fun h=>
 mCal 6 h (fun _ h=>h) fun r3 _ h=>
 mRet 3 h
theorem enter (x0:Int) (x1:api_CFD) (φ:Bool->Prop) (h :
 (if x0<0 then
 φ false
 else
 (if 16<x0 then
 φ false
 else
 (if x1.Rhs<0 then
 φ false
 else
 (if x0<=x1.Rhs then
 φ false
 else
 (if (x1.Pattern.length:Int)=(IntKind.wrap .i64 ((x1.Lhs.length:Int)+1)) then
 q51_.L1 x0 x1 ((-1)) 0 φ
 else
 φ false)))))):∃ r,φ r/\C x0 x1 r:=
 mEnt (fd:=Tryz.f25) (body:=B) (V:=W) (res:=res) <|
 mAsk 6 h dT dF (fun h=>
 mRet 30 h) fun h=>
 mAsk 2 h dT dF (fun h=>
 mRet 27 h) fun h=>
 mAsk 4 h dT dF (fun h=>
 mRet 22 h) fun h=>
 mAsk 5 h dT dF (fun h=>
 mRet 16 h) fun h=>
 mLen 4 Aa5 x1.Pattern <|
 mLen 2 (eI .i64) x1.Lhs <|
 Adn 1 h Acz Acy (fun h=>
 mRet 6 h) fun h=>
 mLen 10 (eI .i64) x1.Lhs <|
 mFin 2 h
end q51_
namespace q57_
noncomputable def B:Code:=(Tryz.f27.body).getD .skip
def W:List Nat:=[0,1,2,3,4]
def res (r:Bool):D×List D:=(.lit (.bool r),[])
def C (x0:api_Cell) (x1:api_Value) (r:Bool):Prop:=Ret env 27 [.agg [.lit (.bool x0.Any),.lit (.int .i64 x0.Value.Kind),.lit (.int .i64 x0.Value.Num),.lit (.string x0.Value.Str)],.agg [.lit (.int .i64 x1.Kind),.lit (.int .i64 x1.Num),.lit (.string x1.Str)]] (res r).1 (res r).2
theorem enter (x0:api_Cell) (x1:api_Value) (φ:Bool->Prop) (h :
 (if x0.Any=true then
 φ true
 else
 φ ((and (x0.Value.Kind == x1.Kind) (and (x0.Value.Num == x1.Num) (and (x0.Value.Str.toList == x1.Str.toList) true)))))):∃ r,φ r/\C x0 x1 r:=
 mEnt (fd:=Tryz.f27) (body:=B) (V:=W) (res:=res) <|
 mAsk 7 h id fls (fun h=>
 mRet 8 h) fun h=>
 mBi 4 (Awc (t:=80) (xs:=[.lit (.int .i64 x0.Value.Kind),.lit (.int .i64 x0.Value.Num),.lit (.string x0.Value.Str)]) (ys:=[.lit (.int .i64 x1.Kind),.lit (.int .i64 x1.Num),.lit (.string x1.Str)]) (l:=[(x0.Value.Kind == x1.Kind),(x0.Value.Num == x1.Num),(x0.Value.Str.toList == x1.Str.toList)])) <|
 mRet 3 h
end q57_
namespace q58_
noncomputable def B:Code:=(Tryz.f26.body).getD .skip
def W:List Nat:=[0,1,2,4,5,6,8,9,10,11,25]
def res (r:Bool):D×List D:=(.lit (.bool r),[])
def C (x0:api_CFD) (x1:List api_Value) (r:Bool):Prop:=Ret env 26 [.agg [.sl (x0.Lhs.map (eI .i64)),.lit (.int .i64 x0.Rhs),.sl (x0.Pattern.map Aa5)],.sl (x1.map Aa3)] (res r).1 (res r).2
def L1 (x0:api_CFD) (x1:List api_Value) (z0:Int) (φ:Bool->Prop):Prop:=Pt env 26 W B [1,0,1,0] [(0,.agg [.sl (x0.Lhs.map (eI .i64)),.lit (.int .i64 x0.Rhs),.sl (x0.Pattern.map Aa5)]),(1,.sl (x1.map Aa3)),(2,.box [.sl (x0.Lhs.map (eI .i64)),.lit (.int .i64 x0.Rhs),.sl (x0.Pattern.map Aa5)]),(8,.sl (x0.Lhs.map (eI .i64))),(9,.lit (.int .i64 ((x0.Lhs.length:Int)))),(10,.lit (.int .i64 z0))] (Lv env 26 Tryz.f26 2 res φ)
theorem L1_step (x0:api_CFD) (x1:List api_Value) (z0:Int) (φ:Bool->Prop) (h :
 (if z0<(x0.Lhs.length:Int) then
 ∃ a1,lget x0.Lhs z0=some a1 /\
 ∃ a3,lget x0.Pattern z0=some a3 /\
 ∃ a5,lget x1 a1=some a5 /\
 ∃ r7:Bool,q57_.C a3 a5 r7 /\
 (if r7=true then
 q58_.L1 x0 x1 ((IntKind.wrap .i64 (z0+1))) φ
 else
 φ false)
 else
 φ true)):L1 x0 x1 z0 φ:=
 mIn <|
 mAsk 2 h dT dF (fun h=>
 mIx 5 (eI .i64) h fun a1 h2 h=>
 mIx 8 Aa5 h fun a3 h4 h=>
 mIx 3 Aa3 h fun a5 h6 h=>
 Aba 1 h (fun _ h=>h) (fun _ h=>
 mFin 8 h) fun _ h=>
 mRet 6 h) fun h=>
 mRet 6 h
theorem enter (x0:api_CFD) (x1:List api_Value) (φ:Bool->Prop) (h :
 q58_.L1 x0 x1 0 φ):∃ r,φ r/\C x0 x1 r:=
 mEnt (fd:=Tryz.f26) (body:=B) (V:=W) (res:=res) <|
 mLen 7 (eI .i64) x0.Lhs <|
 mFin 2 h
end q58_
namespace q46_
noncomputable def B:Code:=(Tryz.f62.body).getD .skip
def W:List Nat:=[0,1,2,4]
def res (r:Bool):D×List D:=(.lit (.bool r),[])
def C (x0:Int) (k1_0 k2_0:List api_Value) (r:Bool):Prop:=Ret env 62 [.lit (.int .i64 x0),.ref [.sl (k1_0.map Aa3)],.ref [.sl (k2_0.map Aa3)]] (res r).1 (res r).2
theorem enter (x0:Int) (k1_0 k2_0:List api_Value) (φ:Bool->Prop) (h :
 ∃ a1,lget k1_0 x0=some a1 /\
 ∃ a3,lget k2_0 x0=some a3 /\
 φ ((not (and (a1.Kind == a3.Kind) (and (a1.Num == a3.Num) (and (a1.Str.toList == a3.Str.toList) true)))))):∃ r,φ r/\C x0 k1_0 k2_0 r:=
 mEnt (fd:=Tryz.f62) (body:=B) (V:=W) (res:=res) <|
 mIx 6 Aa3 h fun a1 h2 h=>
 mIx 3 Aa3 h fun a3 h4 h=>
 mBi 1 (Arc (t:=80) (xs:=[.lit (.int .i64 a1.Kind),.lit (.int .i64 a1.Num),.lit (.string a1.Str)]) (ys:=[.lit (.int .i64 a3.Kind),.lit (.int .i64 a3.Num),.lit (.string a3.Str)]) (l:=[(a1.Kind == a3.Kind),(a1.Num == a3.Num),(a1.Str.toList == a3.Str.toList)])) <|
 mRet 2 h
end q46_
namespace q24_
noncomputable def B:Code:=(Tryz.f82.body).getD .skip
def W:List Nat:=[0,1,4,5,7,8,9,16]
def res (r:Int):D×List D:=(.lit (.int .i64 r),[])
def C (x0:List Int) (k1_0 k1_1:List api_Value) (r:Int):Prop:=Ret env 82 [.sl (x0.map (eI .i64)),.fn 62 [.ref [.sl (k1_0.map Aa3)],.ref [.sl (k1_1.map Aa3)]]] (res r).1 (res r).2
def L1 (x0:List Int) (k1_0 k1_1:List api_Value) (z0:Int) (φ:Int->Prop):Prop:=Pt env 82 W B [1,0,1,0] [(0,.sl (x0.map (eI .i64))),(1,.fn 62 [.ref [.sl (k1_0.map Aa3)],.ref [.sl (k1_1.map Aa3)]]),(7,.lit (.int .i64 ((x0.length:Int)))),(8,.lit (.int .i64 z0))] (Lv env 82 Tryz.f82 2 res φ)
theorem L1_step (x0:List Int) (k1_0 k1_1:List api_Value) (z0:Int) (φ:Int->Prop) (h :
 (if z0<(x0.length:Int) then
 ∃ a1,lget x0 z0=some a1 /\
 ∃ r3:Bool,q46_.C a1 k1_0 k1_1 r3 /\
 (if r3=true then
 φ z0
 else
 q24_.L1 x0 k1_0 k1_1 ((IntKind.wrap .i64 (z0+1))) φ)
 else
 φ ((-1)))):L1 x0 k1_0 k1_1 z0 φ:=
 mIn <|
 mAsk 2 h dT dF (fun h=>
 mIx 11 (eI .i64) h fun a1 h2 h=>
 Aba 1 h (fun _ h=>h) (fun _ h=>
 mRet 6 h) fun _ h=>
 mFin 7 h) fun h=>
 mRet 6 h
theorem enter (x0:List Int) (k1_0 k1_1:List api_Value) (φ:Int->Prop) (h :
 q24_.L1 x0 k1_0 k1_1 0 φ):∃ r,φ r/\C x0 k1_0 k1_1 r:=
 mEnt (fd:=Tryz.f82) (body:=B) (V:=W) (res:=res) <|
 mLen 5 (eI .i64) x0 <|
 mFin 2 h
end q24_
namespace q22_
noncomputable def B:Code:=(Tryz.f61.body).getD .skip
def W:List Nat:=[0,1,4]
def res (r:Bool):D×List D:=(.lit (.bool r),[])
def C (x0:List Int) (k1_0 k1_1:List api_Value) (r:Bool):Prop:=Ret env 61 [.sl (x0.map (eI .i64)),.fn 62 [.ref [.sl (k1_0.map Aa3)],.ref [.sl (k1_1.map Aa3)]]] (res r).1 (res r).2
theorem enter (x0:List Int) (k1_0 k1_1:List api_Value) (φ:Bool->Prop) (h :
 ∃ r1:Int,q24_.C x0 k1_0 k1_1 r1 /\
 φ ((decide (0<=r1)))):∃ r,φ r/\C x0 k1_0 k1_1 r:=
 mEnt (fd:=Tryz.f61) (body:=B) (V:=W) (res:=res) <|
 mCal 6 h (fun _ h=>h) fun r1 _ h=>
 mRet 3 h
end q22_
namespace q59_
noncomputable def B:Code:=(Tryz.f29.body).getD .skip
def W:List Nat:=[0,1,2,3,4,5,6]
def res (r:Bool):D×List D:=(.lit (.bool r),[])
def C (x0:api_CFD) (x1 x2:List api_Value) (r:Bool):Prop:=Ret env 29 [.agg [.sl (x0.Lhs.map (eI .i64)),.lit (.int .i64 x0.Rhs),.sl (x0.Pattern.map Aa5)],.sl (x1.map Aa3),.sl (x2.map Aa3)] (res r).1 (res r).2
theorem enter (x0:api_CFD) (x1 x2:List api_Value) (φ:Bool->Prop) (h :
 ∃ a1,lget x1 x0.Rhs=some a1 /\
 ∃ a3,lget x2 x0.Rhs=some a3 /\
 (if (and (a1.Kind == a3.Kind) (and (a1.Num == a3.Num) (and (a1.Str.toList == a3.Str.toList) true)))=true then
 φ false
 else
 ∃ r5:Bool,q22_.C x0.Lhs x1 x2 r5 /\
 φ ((not r5)))):∃ r,φ r/\C x0 x1 x2 r:=
 mEnt (fd:=Tryz.f29) (body:=B) (V:=W) (res:=res) <|
 mIx 10 Aa3 h fun a1 h2 h=>
 mIx 4 Aa3 h fun a3 h4 h=>
 Bbj 1 h (fun h=>fls (Atr h)) Atq (hd:=(Arc (t:=80) (xs:=[.lit (.int .i64 a1.Kind),.lit (.int .i64 a1.Num),.lit (.string a1.Str)]) (ys:=[.lit (.int .i64 a3.Kind),.lit (.int .i64 a3.Num),.lit (.string a3.Str)]) (l:=[(a1.Kind == a3.Kind),(a1.Num == a3.Num),(a1.Str.toList == a3.Str.toList)]))) (fun h=>
 mCal 4 h (fun _ h=>h) fun r5 _ h=>
 mRet 4 h) fun h=>
 mRet 9 h
end q59_
namespace q52_
noncomputable def B:Code:=(Tryz.f28.body).getD .skip
def W:List Nat:=[0,1,2]
def res (r:api_Cell):D×List D:=(.agg [.lit (.bool r.Any),.lit (.int .i64 r.Value.Kind),.lit (.int .i64 r.Value.Num),.lit (.string r.Value.Str)],[])
def C (x0:api_CFD) (r:api_Cell):Prop:=Ret env 28 [.agg [.sl (x0.Lhs.map (eI .i64)),.lit (.int .i64 x0.Rhs),.sl (x0.Pattern.map Aa5)]] (res r).1 (res r).2
theorem enter (x0:api_CFD) (φ:api_Cell->Prop) (h :
 ∃ a1,lget x0.Pattern ((x0.Lhs.length:Int))=some a1 /\
 φ a1):∃ r,φ r/\C x0 r:=
 mEnt (fd:=Tryz.f28) (body:=B) (V:=W) (res:=res) <|
 mLen 9 (eI .i64) x0.Lhs <|
 mIx 0 Aa5 h fun a1 h2 h=>
 mRet 3 h
end q52_
namespace q36_
noncomputable def B:Code:=(Tryz.f8.body).getD .skip
def W:List Nat:=[0,1,2,3,4,5,6,7,9,10,11,12,13,15,19,26,28,29,30,31,37,43,44,45,46,59,69,70,71,72,80]
def res (r:List (List Int)×Int):D×List D:=(.tup [.own (r.1.map (eSl (eI .i64))),.lit (.int .i64 r.2)],[])
def C (x0:api_Table) (x1:api_CFD) (r:List (List Int)×Int):Prop:=Ret env 8 [.agg [.lit (.string x0.Name),.sl (x0.Attrs.map eS),.sl (x0.Rows.map Aa2)],.agg [.sl (x1.Lhs.map (eI .i64)),.lit (.int .i64 x1.Rhs),.sl (x1.Pattern.map Aa5)]] (res r).1 (res r).2
def L1 (x0:api_Table) (x1:api_CFD) (z0:List api_Row) (z1:Int) (φ:List (List Int)×Int->Prop):Prop:=Pt env 8 W B [1,1,1,1,0,1,0] [(0,.agg [.lit (.string x0.Name),.sl (x0.Attrs.map eS),.sl (x0.Rows.map Aa2)]),(1,.agg [.sl (x1.Lhs.map (eI .i64)),.lit (.int .i64 x1.Rhs),.sl (x1.Pattern.map Aa5)]),(2,.box [.lit (.string x0.Name),.sl (x0.Attrs.map eS),.sl (x0.Rows.map Aa2)]),(3,.box [.sl (x1.Lhs.map (eI .i64)),.lit (.int .i64 x1.Rhs),.sl (x1.Pattern.map Aa5)]),(7,.own (z0.map Aa2)),(28,.sl (x0.Rows.map Aa2)),(29,.lit (.int .i64 ((x0.Rows.length:Int)))),(30,.lit (.int .i64 z1))] (Lv env 8 Tryz.f8 2 res φ)
def L2 (x0:api_Table) (x1:api_CFD) (z0:List api_Row) (z1:Int) (φ:List (List Int)×Int->Prop):Prop:=Pt env 8 W B [1,1,1,1,0,1,0,0,1,1,1] [(0,.agg [.lit (.string x0.Name),.sl (x0.Attrs.map eS),.sl (x0.Rows.map Aa2)]),(1,.agg [.sl (x1.Lhs.map (eI .i64)),.lit (.int .i64 x1.Rhs),.sl (x1.Pattern.map Aa5)]),(2,.box [.lit (.string x0.Name),.sl (x0.Attrs.map eS),.sl (x0.Rows.map Aa2)]),(3,.box [.sl (x1.Lhs.map (eI .i64)),.lit (.int .i64 x1.Rhs),.sl (x1.Pattern.map Aa5)]),(7,.own (z0.map Aa2)),(28,.sl (x0.Rows.map Aa2)),(29,.lit (.int .i64 ((x0.Rows.length:Int)))),(30,.lit (.int .i64 z1))] (Lv env 8 Tryz.f8 2 res φ)
def L3 (x1:api_CFD) (z0:List api_Row) (z1 z2:List (List Int)) (z3:Int) (φ:List (List Int)×Int->Prop):Prop:=Pt env 8 W B [1,1,1,1,1,1,0,1,0] [(1,.agg [.sl (x1.Lhs.map (eI .i64)),.lit (.int .i64 x1.Rhs),.sl (x1.Pattern.map Aa5)]),(3,.box [.sl (x1.Lhs.map (eI .i64)),.lit (.int .i64 x1.Rhs),.sl (x1.Pattern.map Aa5)]),(7,.own (z0.map Aa2)),(10,.own (z1.map (eOw (eI .i64)))),(11,.own (z2.map (eOw (eI .i64)))),(43,.alias 7 []),(44,.lit (.int .i64 ((z0.length:Int)))),(45,.lit (.int .i64 z3))] (Lv env 8 Tryz.f8 2 res φ)
def L5 (x1:api_CFD) (z0:List api_Row) (z1 z2:List (List Int)) (z3:Int) (a7:api_Row) (z4:Int) (φ:List (List Int)×Int->Prop):Prop:=Pt env 8 W B [1,1,1,1,1,1,0,1,0,0,1,1,0,0,1,1,0] [(1,.agg [.sl (x1.Lhs.map (eI .i64)),.lit (.int .i64 x1.Rhs),.sl (x1.Pattern.map Aa5)]),(3,.box [.sl (x1.Lhs.map (eI .i64)),.lit (.int .i64 x1.Rhs),.sl (x1.Pattern.map Aa5)]),(7,.own (z0.map Aa2)),(10,.own (z1.map (eOw (eI .i64)))),(11,.own (z2.map (eOw (eI .i64)))),(12,.lit (.int .i64 z3)),(13,.box [.lit (.int .i64 a7.ID),.sl (a7.Values.map Aa3)]),(43,.alias 7 []),(44,.lit (.int .i64 ((z0.length:Int)))),(45,.lit (.int .i64 z4))] (Lv env 8 Tryz.f8 2 res φ)
def L4 (x1:api_CFD) (z0:List api_Row) (z1 z2:List (List Int)) (a7:api_Row) (z3:Int) (y69_o_L4 y69_n_L4:Nat) (z4 z5:Int) (φ:List (List Int)×Int->Prop):Prop:=Pt env 8 W B [1,1,1,1,1,1,0,1,0,0,1,1,0,0,1,1,1,0] [(1,.agg [.sl (x1.Lhs.map (eI .i64)),.lit (.int .i64 x1.Rhs),.sl (x1.Pattern.map Aa5)]),(3,.box [.sl (x1.Lhs.map (eI .i64)),.lit (.int .i64 x1.Rhs),.sl (x1.Pattern.map Aa5)]),(7,.own (z0.map Aa2)),(10,.own (z1.map (eOw (eI .i64)))),(11,.own (z2.map (eOw (eI .i64)))),(13,.box [.lit (.int .i64 a7.ID),.sl (a7.Values.map Aa3)]),(43,.alias 7 []),(44,.lit (.int .i64 ((z0.length:Int)))),(45,.lit (.int .i64 z3)),(69,.sub 7 [] y69_o_L4 y69_n_L4),(70,.lit (.int .i64 z4)),(71,.lit (.int .i64 z5))] (Lv env 8 Tryz.f8 2 res φ)
def L6 (x1:api_CFD) (z0:List api_Row) (z1 z2:List (List Int)) (a7:api_Row) (z3:Int) (y69_o_L6 y69_n_L6:Nat) (z4 z5:Int) (φ:List (List Int)×Int->Prop):Prop:=Pt env 8 W B [1,1,1,1,1,1,0,1,0,0,1,1,0,0,1,1,1,0,0,1,1,1] [(1,.agg [.sl (x1.Lhs.map (eI .i64)),.lit (.int .i64 x1.Rhs),.sl (x1.Pattern.map Aa5)]),(3,.box [.sl (x1.Lhs.map (eI .i64)),.lit (.int .i64 x1.Rhs),.sl (x1.Pattern.map Aa5)]),(7,.own (z0.map Aa2)),(10,.own (z1.map (eOw (eI .i64)))),(11,.own (z2.map (eOw (eI .i64)))),(13,.box [.lit (.int .i64 a7.ID),.sl (a7.Values.map Aa3)]),(43,.alias 7 []),(44,.lit (.int .i64 ((z0.length:Int)))),(45,.lit (.int .i64 z3)),(69,.sub 7 [] y69_o_L6 y69_n_L6),(70,.lit (.int .i64 z4)),(71,.lit (.int .i64 z5))] (Lv env 8 Tryz.f8 2 res φ)
theorem L1_step (x0:api_Table) (x1:api_CFD) (z0:List api_Row) (z1:Int) (φ:List (List Int)×Int->Prop) (h :
 (if z1<(x0.Rows.length:Int) then
 ∃ a3,lget x0.Rows z1=some a3 /\
 ∃ r5:Bool,q58_.C x1 a3.Values r5 /\
 (if r5=true then
 (z0.length+1)*32<=140737488355328 /\
 q36_.L2 x0 x1 ((z0++[a3])) z1 φ
 else
 q36_.L2 x0 x1 z0 z1 φ)
 else
 q36_.L3 x1 z0 ([]) ([]) 0 φ)):L1 x0 x1 z0 z1 φ:=
 mIn <|
 mAsk 2 h dT dF (fun h=>
 mIx 4 Aa2 h fun a3 h4 h=>
 Aba 8 h (fun _ h=>h) (fun _ h=>
 mApp 6 Aa2 z0 ([a3]) h fun h=>
 mFin 2 h) fun _ h=>
 mFin 3 h) fun h=>
 mLen 9 Aa2 z0 <|
 mFin 2 h
theorem L2_step (x0:api_Table) (x1:api_CFD) (z0:List api_Row) (z1:Int) (φ:List (List Int)×Int->Prop) (h :
 q36_.L1 x0 x1 z0 ((IntKind.wrap .i64 (z1+1))) φ):L2 x0 x1 z0 z1 φ:=
 mIn <|
 mFin 4 h
theorem L3_step (x1:api_CFD) (z0:List api_Row) (z1 z2:List (List Int)) (z3:Int) (φ:List (List Int)×Int->Prop) (h :
 (if z3<(z0.length:Int) then
 ∃ a7,lget z0 z3=some a7 /\
 ∃ r9:api_Cell,q52_.C x1 r9 /\
 ∃ a10,lget a7.Values x1.Rhs=some a10 /\
 ∃ r12:Bool,q57_.C r9 a10 r12 /\
 (if r12=true then
 q36_.L5 x1 z0 z1 z2 z3 a7 z3 φ
 else
 (z1.length+1)*24<=140737488355328 /\
 q36_.L5 x1 z0 ((z1++[[a7.ID]])) z2 z3 a7 z3 φ)
 else
 (z1.length+z2.length)*24<=140737488355328 /\
 φ (((z1++z2),0)))):L3 x1 z0 z1 z2 z3 φ:=
 mIn <|
 mAsk 2 h dT dF (fun h=>
 mIy 5 Aa2 h fun a7 h8 h=>
 mLd 0 Aa2 h8 <|
 mLo 6 h (fun _ h=>h) (hf:=(fun _=>Abm (Ab1 (Aa1 rfl (Aa1 rfl (Aa1 rfl (Aa1 rfl Aag))))))) fun r9 _ h=>
 mIx 4 Aa3 h fun a10 h11 h=>
 Aba 1 h (fun _ h=>h) (fun _ h=>
 mFin 4 h) fun _ h=>
 mApp 9 (eOw (eI .i64)) z1 ([[a7.ID]]) h fun h=>
 mFin 2 h) fun h=>
 mXit 2 [(10,.own (z1.map (eSl (eI .i64)))),(11,.own (z2.map (eSl (eI .i64))))] (Awa (F0:=[(10,.own (z1.map (eOw (eI .i64)))),(11,.own (z2.map (eOw (eI .i64))))]) (F1:=[(10,.own (z1.map (eSl (eI .i64)))),(11,.own (z2.map (eOw (eI .i64))))]) (l1:=z1) (l2:=z2) (e1:=(eI .i64)) (e1':=(eI .i64)) (e2:=(eI .i64)) (e2':=(eI .i64)) (s1:=10) (s2:=11) (by kernel_rfl) (by kernel_rfl) (by kernel_rfl) (fun _=>rfl) (by kernel_rfl) (by kernel_rfl) (by kernel_rfl) (fun _=>rfl) (by kernel_rfl) (by kernel_rfl)) <|
 h.elim fun h14 h=>
 mOp 3 (app3 (x:=(.tmp 91)) (y:=(.tmp 92)) (t:=45) (u:=45) (et:=56) (z:=.own []) (k:=1) (c:=24) (e:=(eSl (eI .i64))) (l:=z1) (m:=z2) (by kernel_rfl) (by kernel_rfl) (by kernel_rfl) (by kernel_rfl) (by kernel_rfl) (by kernel_rfl) (Avy (s:=11) (ps:=[]) (by kernel_rfl) (by kernel_rfl) (fun _=>rfl)) (by kernel_rfl) (by kernel_rfl) (by kernel_rfl) (by kernel_rfl) (fun _=>rfl) h14) <|
 mRet 3 h
theorem L5_step (x1:api_CFD) (z0:List api_Row) (z1 z2:List (List Int)) (z3:Int) (a7:api_Row) (z4:Int) (φ:List (List Int)×Int->Prop) (h :
 0<=(IntKind.wrap .i64 (z3+1)) /\
 (((IntKind.wrap .i64 (z3+1))).toNat<=z0.length/\z0.length<=z0.length) /\
 ((IntKind.wrap .i64 (z3+1))).toNat+(z0.length-((IntKind.wrap .i64 (z3+1))).toNat)<=z0.length /\
 q36_.L4 x1 z0 z1 z2 a7 z4 (((IntKind.wrap .i64 (z3+1))).toNat) ((z0.length-((IntKind.wrap .i64 (z3+1))).toNat)) (((List.take (z0.length-((IntKind.wrap .i64 (z3+1))).toNat) (List.drop ((IntKind.wrap .i64 (z3+1))).toNat z0)).length:Int)) 0 φ):L5 x1 z0 z1 z2 z3 a7 z4 φ:=
 mIn <|
 h.elim fun h15 h=>
 h.elim fun h16 h=>
 mVl 4 (Agq (s:=7) (ps:=[]) (t:=31) (x:=(.tmp 66)) (lo:=(some (.tmp 68))) (hi:=none) (lo':=some ((IntKind.wrap .i64 (z3+1))).toNat) (hi':=none) (e:=Aa2) (l:=z0) (et:=89) (k:=2) (by kernel_rfl) (by kernel_rfl) (Ahv (by kernel_rfl)) (Ael (i:=(IntKind.wrap .i64 (z3+1))) (q:=.i64) (by kernel_rfl) h15) Aek (by kernel_rfl) (by kernel_rfl) (fun _=>rfl) (by kernel_rfl) h16.1 h16.2) <|
 h.elim fun h17 h=>
 mVl 0 (Ao1 (x:=(.tmp 69)) (t:=31) (et:=89) (d:=.sub 7 [] (((IntKind.wrap .i64 (z3+1))).toNat) ((z0.length-((IntKind.wrap .i64 (z3+1))).toNat))) (e:=Aa2) (l:=(List.take (z0.length-((IntKind.wrap .i64 (z3+1))).toNat) (List.drop ((IntKind.wrap .i64 (z3+1))).toNat z0))) (by kernel_rfl) (by kernel_rfl) (Afq (s:=7) (ps:=[]) (l:=z0) (e:=Aa2) (by kernel_rfl) h17) (by kernel_rfl)) <|
 mFin 2 h
theorem L4_step (x1:api_CFD) (z0:List api_Row) (z1 z2:List (List Int)) (a7:api_Row) (z3:Int) (y69_o_L4 y69_n_L4:Nat) (z4 z5:Int) (φ:List (List Int)×Int->Prop) (h :
 (if z5<z4 then
 ∃ a20,lget z0 (((y69_o_L4:Int)+z5))=some a20 /\
 (0<=z5/\z5<((y69_n_L4:Nat):Int)) /\
 y69_o_L4+y69_n_L4<=z0.length /\
 ∃ r22:Bool,q59_.C x1 a7.Values a20.Values r22 /\
 (if r22=true then
 (z2.length+1)*24<=140737488355328 /\
 q36_.L6 x1 z0 z1 ((z2++[[a7.ID,a20.ID]])) a7 z3 y69_o_L4 y69_n_L4 z4 z5 φ
 else
 q36_.L6 x1 z0 z1 z2 a7 z3 y69_o_L4 y69_n_L4 z4 z5 φ)
 else
 q36_.L3 x1 z0 z1 z2 ((IntKind.wrap .i64 (z3+1))) φ)):L4 x1 z0 z1 z2 a7 z3 y69_o_L4 y69_n_L4 z4 z5 φ:=
 mIn <|
 mAsk 2 h dT dF (fun h=>
 h.elim fun a20 h=>h.elim fun h21 h=>
 h.elim fun h19 h=>
 h.elim fun h18 h=>
 mVl 4 (Aht (s:=7) (ps:=[]) (off:=y69_o_L4) (len:=y69_n_L4) (t:=31) (x:=(.tmp 69)) (ix:=(.tmp 71)) (et:=89) (k:=2) (e:=Aa2) (l:=z0) (i:=z5) (q:=.i64) (a:=a20) (by kernel_rfl) (by kernel_rfl) (by kernel_rfl) (by kernel_rfl) (by kernel_rfl) (by kernel_rfl) h18 h19 h21 (by kernel_rfl)) <|
 mLd 0 Aa2 h21 <|
 Aba 9 h (fun _ h=>h) (fun _ h=>
 mApp 10 (eOw (eI .i64)) z2 ([[a7.ID,a20.ID]]) h fun h=>
 mFin 2 h) fun _ h=>
 mFin 3 h) fun h=>
 mFin 7 h
theorem L6_step (x1:api_CFD) (z0:List api_Row) (z1 z2:List (List Int)) (a7:api_Row) (z3:Int) (y69_o_L6 y69_n_L6:Nat) (z4 z5:Int) (φ:List (List Int)×Int->Prop) (h :
 q36_.L4 x1 z0 z1 z2 a7 z3 y69_o_L6 y69_n_L6 z4 ((IntKind.wrap .i64 (z5+1))) φ):L6 x1 z0 z1 z2 a7 z3 y69_o_L6 y69_n_L6 z4 z5 φ:=
 mIn <|
 mFin 4 h
theorem enter (x0:api_Table) (x1:api_CFD) (φ:List (List Int)×Int->Prop) (h :
 ∃ r1:Int,q91_.C x0 r1 /\
 (if r1=0 then
 ∃ r2:Bool,q51_.C ((x0.Attrs.length:Int)) x1 r2 /\
 (if r2=true then
 q36_.L1 x0 x1 ([]) 0 φ
 else
 φ (([],1)))
 else
 φ (([],r1)))):∃ r,φ r/\C x0 x1 r:=
 mEnt (fd:=Tryz.f8) (body:=B) (V:=W) (res:=res) <|
 mCal 8 h (fun _ h=>h) fun r1 _ h=>
 Adn 4 h Acz Acy (fun h=>
 mRet 7 h) fun h=>
 mLen 6 eS x0.Attrs <|
 Aba 1 h (fun _ h=>h) (fun _ h=>
 mLen 10 Aa2 x0.Rows <|
 mFin 2 h) fun _ h=>
 mRet 7 h
end q36_
namespace q39_
noncomputable def B:Code:=(Tryz.f12.body).getD .skip
def W:List Nat:=[0,1,2,4,5,6,8,9,10,12,13,14,15,16,26,27,28,29,30]
def res (r:List (List Int)×Bool):D×List D:=(.tup [.own (r.1.map (eSl (eI .i64))),.lit (.bool r.2)],[])
def C (x0:api_Table) (x1:List api_Denial) (r:List (List Int)×Bool):Prop:=Ret env 12 [.agg [.lit (.string x0.Name),.sl (x0.Attrs.map eS),.sl (x0.Rows.map Aa2)],.sl (x1.map Abl)] (res r).1 (res r).2
def L1 (x0:api_Table) (x1:List api_Denial) (z0:List (List Int)) (z1:Int) (φ:List (List Int)×Bool->Prop):Prop:=Pt env 12 W B [1,1,0,1,0] [(0,.agg [.lit (.string x0.Name),.sl (x0.Attrs.map eS),.sl (x0.Rows.map Aa2)]),(1,.sl (x1.map Abl)),(2,.box [.lit (.string x0.Name),.sl (x0.Attrs.map eS),.sl (x0.Rows.map Aa2)]),(6,.own (z0.map (eSl (eI .i64)))),(13,.sl (x1.map Abl)),(14,.lit (.int .i64 ((x1.length:Int)))),(15,.lit (.int .i64 z1))] (Lv env 12 Tryz.f12 2 res φ)
def L2 (x0:api_Table) (x1:List api_Denial) (z0:List (List Int)) (r3:List (List Int)×Int) (z1 z2:Int) (φ:List (List Int)×Bool->Prop):Prop:=Pt env 12 W B [1,1,0,1,0,0,1,1,0,0,1,1,1,1,0] [(0,.agg [.lit (.string x0.Name),.sl (x0.Attrs.map eS),.sl (x0.Rows.map Aa2)]),(1,.sl (x1.map Abl)),(2,.box [.lit (.string x0.Name),.sl (x0.Attrs.map eS),.sl (x0.Rows.map Aa2)]),(6,.own (z0.map (eSl (eI .i64)))),(9,.sl (r3.1.map (eSl (eI .i64)))),(13,.sl (x1.map Abl)),(14,.lit (.int .i64 ((x1.length:Int)))),(15,.lit (.int .i64 z1)),(27,.sl (r3.1.map (eSl (eI .i64)))),(28,.lit (.int .i64 ((r3.1.length:Int)))),(29,.lit (.int .i64 z2))] (Lv env 12 Tryz.f12 2 res φ)
theorem L1_step (x0:api_Table) (x1:List api_Denial) (z0:List (List Int)) (z1:Int) (φ:List (List Int)×Bool->Prop) (h :
 (if z1<(x1.length:Int) then
 ∃ a1,lget x1 z1=some a1 /\
 ∃ r3:List (List Int)×Int,q50_.C x0 a1 r3 /\
 (if r3.2=0 then
 q39_.L2 x0 x1 z0 r3 z1 0 φ
 else
 φ (([],false)))
 else
 φ ((z0,true)))):L1 x0 x1 z0 z1 φ:=
 mIn <|
 mAsk 2 h dT dF (fun h=>
 mIx 4 Abl h fun a1 h2 h=>
 Ajk 7 h (fun _ h=>h) (fun (r3:List (List Int)×Int)=>Aet rfl (Aan (Ab6 (e:=(eSl (eI .i64))) (e':=(eSl (eI .i64))) (fun _=>rfl) r3.1) (Aan rfl Acq))) (hf:=(fun _=>Ab7)) fun r3 _ h=>
 Adn 8 h Acz Acy (fun h=>
 mRet 6 h) fun h=>
 mLen 5 (eSl (eI .i64)) r3.1 <|
 mFin 2 h) fun h=>
 mRet 8 h
theorem L2_step (x0:api_Table) (x1:List api_Denial) (z0:List (List Int)) (r3:List (List Int)×Int) (z1 z2:Int) (φ:List (List Int)×Bool->Prop) (h :
 (if z2<(r3.1.length:Int) then
 ∃ a4,lget r3.1 z2=some a4 /\
 ∃ r6:List (List Int),q70_.C a4 z0 r6 /\
 q39_.L2 x0 x1 r6 r3 z1 ((IntKind.wrap .i64 (z2+1))) φ
 else
 q39_.L1 x0 x1 z0 ((IntKind.wrap .i64 (z1+1))) φ)):L2 x0 x1 z0 r3 z1 z2 φ:=
 mIn <|
 mAsk 2 h dT dF (fun h=>
 mIx 4 (eSl (eI .i64)) h fun a4 h5 h=>
 mCal 6 h (fun _ h=>h) (hf:=(fun _=>Ab7)) fun r6 _ h=>
 mFin 6 h) fun h=>
 mFin 7 h
theorem enter (x0:api_Table) (x1:List api_Denial) (φ:List (List Int)×Bool->Prop) (h :
 q39_.L1 x0 x1 ([]) 0 φ):∃ r,φ r/\C x0 x1 r:=
 mEnt (fd:=Tryz.f12) (body:=B) (V:=W) (res:=res) <|
 mLen 10 Abl x1 <|
 mFin 2 h
end q39_
namespace q86_
noncomputable def B:Code:=(Tryz.f6.body).getD .skip
def W:List Nat:=[0,1,3,4,5,6,7,16,29,40,56]
def res (r:api_CFD):D×List D:=(.agg [.own (r.Lhs.map (eI .i64)),.lit (.int .i64 r.Rhs),.own (r.Pattern.map Aa5)],[])
def C (x0:Int) (x1:drossref16_Draft) (r:api_CFD):Prop:=Ret env 6 [.lit (.int .i64 x0),.agg [.lit (.int .u8 x1.Lhs),.lit (.int .u8 x1.Rhs),.sl (x1.Codes.map (eI .u8))]] (res r).1 (res r).2
def L1 (x0:Int) (x1:drossref16_Draft) (z0:List Int) (z1:Int) (φ:api_CFD->Prop):Prop:=Pt env 6 W B [1,1,0,1,0] [(0,.lit (.int .i64 x0)),(1,.agg [.lit (.int .u8 x1.Lhs),.lit (.int .u8 x1.Rhs),.sl (x1.Codes.map (eI .u8))]),(3,.box [.lit (.int .u8 x1.Lhs),.lit (.int .u8 x1.Rhs),.sl (x1.Codes.map (eI .u8))]),(4,.box [.own [],.lit (.int .i64 0),.own []]),(5,.box [.own (z0.map (eI .i64)),.lit (.int .i64 ((Int.tmod (IntKind.wrap .i64 x1.Rhs) x0))),.own []]),(6,.lit (.int .i64 z1))] (Lv env 6 Tryz.f6 2 res φ)
def L2 (x0:Int) (x1:drossref16_Draft) (z0:List Int) (z1:Int) (φ:api_CFD->Prop):Prop:=Pt env 6 W B [1,1,0,1,0,0,1,1] [(0,.lit (.int .i64 x0)),(1,.agg [.lit (.int .u8 x1.Lhs),.lit (.int .u8 x1.Rhs),.sl (x1.Codes.map (eI .u8))]),(3,.box [.lit (.int .u8 x1.Lhs),.lit (.int .u8 x1.Rhs),.sl (x1.Codes.map (eI .u8))]),(4,.box [.own [],.lit (.int .i64 0),.own []]),(5,.box [.own (z0.map (eI .i64)),.lit (.int .i64 ((Int.tmod (IntKind.wrap .i64 x1.Rhs) x0))),.own []]),(6,.lit (.int .i64 z1))] (Lv env 6 Tryz.f6 2 res φ)
def L3 (x1:drossref16_Draft) (z0:List Int) (z1:Int) (z2:List api_Cell) (z3:Int) (φ:api_CFD->Prop):Prop:=Pt env 6 W B [1,1,1,0,1,0] [(1,.agg [.lit (.int .u8 x1.Lhs),.lit (.int .u8 x1.Rhs),.sl (x1.Codes.map (eI .u8))]),(3,.box [.lit (.int .u8 x1.Lhs),.lit (.int .u8 x1.Rhs),.sl (x1.Codes.map (eI .u8))]),(4,.box [.own [],.lit (.int .i64 0),.own []]),(5,.box [.own (z0.map (eI .i64)),.lit (.int .i64 z1),.own (z2.map Aa5)]),(7,.lit (.int .i64 z3))] (Lv env 6 Tryz.f6 2 res φ)
def L4 (x1:drossref16_Draft) (z0:List Int) (z1:Int) (z2:List api_Cell) (z3:Int) (φ:api_CFD->Prop):Prop:=Pt env 6 W B [1,1,1,0,1,0,0,1,0,0,1,0] [(1,.agg [.lit (.int .u8 x1.Lhs),.lit (.int .u8 x1.Rhs),.sl (x1.Codes.map (eI .u8))]),(3,.box [.lit (.int .u8 x1.Lhs),.lit (.int .u8 x1.Rhs),.sl (x1.Codes.map (eI .u8))]),(4,.box [.own [],.lit (.int .i64 0),.own []]),(5,.box [.own (z0.map (eI .i64)),.lit (.int .i64 z1),.own (z2.map Aa5)]),(7,.lit (.int .i64 z3))] (Lv env 6 Tryz.f6 2 res φ)
def L5 (x1:drossref16_Draft) (z0:List Int) (z1:Int) (z2:List api_Cell) (z3:Int) (φ:api_CFD->Prop):Prop:=Pt env 6 W B [1,1,1,0,1,0,0,1,1] [(1,.agg [.lit (.int .u8 x1.Lhs),.lit (.int .u8 x1.Rhs),.sl (x1.Codes.map (eI .u8))]),(3,.box [.lit (.int .u8 x1.Lhs),.lit (.int .u8 x1.Rhs),.sl (x1.Codes.map (eI .u8))]),(4,.box [.own [],.lit (.int .i64 0),.own []]),(5,.box [.own (z0.map (eI .i64)),.lit (.int .i64 z1),.own (z2.map Aa5)]),(7,.lit (.int .i64 z3))] (Lv env 6 Tryz.f6 2 res φ)
theorem L1_step (x0:Int) (x1:drossref16_Draft) (z0:List Int) (z1:Int) (φ:api_CFD->Prop) (h :
 (if z1<x0 then
 ∃ r2:Bool,q69_.C ((IntKind.wrap .u32 x1.Lhs)) z1 r2 /\
 (if r2=true then
 (if z1=(Int.tmod (IntKind.wrap .i64 x1.Rhs) x0) then
 q86_.L2 x0 x1 z0 z1 φ
 else
 (z0.length+1)*8<=140737488355328 /\
 q86_.L2 x0 x1 ((z0++[z1])) z1 φ)
 else
 q86_.L2 x0 x1 z0 z1 φ)
 else
 q86_.L3 x1 z0 ((Int.tmod (IntKind.wrap .i64 x1.Rhs) x0)) ([]) 0 φ)):L1 x0 x1 z0 z1 φ:=
 mIn <|
 mAsk 4 h dT dF (fun h=>
 Aba 8 h (fun _ h=>h) (fun _ h=>
 Adn 4 h Acz Acy (fun h=>
 mApp 8 (eI .i64) z0 ([z1]) h fun h=>
 mFin 3 h) fun h=>
 mFin 4 h) fun _ h=>
 mFin 9 h) fun h=>
 mFin 6 h
theorem L2_step (x0:Int) (x1:drossref16_Draft) (z0:List Int) (z1:Int) (φ:api_CFD->Prop) (h :
 q86_.L1 x0 x1 z0 ((IntKind.wrap .i64 (z1+1))) φ):L2 x0 x1 z0 z1 φ:=
 mIn <|
 mFin 5 h
theorem L3_step (x1:drossref16_Draft) (z0:List Int) (z1:Int) (z2:List api_Cell) (z3:Int) (φ:api_CFD->Prop) (h :
 (if z3<=(z0.length:Int) then
 (if (x1.Codes.length:Int)<=z3 then
 q86_.L4 x1 z0 z1 z2 z3 φ
 else
 ∃ a4,lget x1.Codes z3=some a4 /\
 (if (Int.tmod a4 2)=0 then
 q86_.L4 x1 z0 z1 z2 z3 φ
 else
 ∃ r6:api_Value,q81_.C ((Int.tmod (IntKind.wrap .u8 (Int.tdiv a4 2)) 3)) r6 /\
 (z2.length+1)*40<=140737488355328 /\
 q86_.L5 x1 z0 z1 ((z2++[(⟨false,r6⟩:api_Cell)])) z3 φ))
 else
 φ ((⟨z0,z1,z2⟩:api_CFD)))):L3 x1 z0 z1 z2 z3 φ:=
 mIn <|
 mLen 5 (eI .i64) z0 <|
 mAsk 0 h dT dF (fun h=>
 mLen 7 (eI .u8) x1.Codes <|
 mAsk 0 h dT dF (fun h=>
 mFin 11 h) fun h=>
 mIx 4 (eI .u8) h fun a4 h5 h=>
 mAsk 2 h Aax Aaw (fun h=>
 mFin 3 h) fun h=>
 mIxf 9 (eI .u8) h5 <|
 mLo 3 h (fun _ h=>h) (hf:=(fun _=>Abm (Ab1 (Aa1 rfl (Aa1 rfl (Aa1 rfl Aag)))))) fun r6 _ h=>
 mApp 2 Aa5 z2 ([(⟨false,r6⟩:api_Cell)]) h fun h=>
 mFin 3 h) fun h=>
 mRet 7 h
theorem L4_step (x1:drossref16_Draft) (z0:List Int) (z1:Int) (z2:List api_Cell) (z3:Int) (φ:api_CFD->Prop) (h :
 (z2.length+1)*40<=140737488355328 /\
 q86_.L5 x1 z0 z1 ((z2++[(⟨true,(⟨0,0,(⟨#[]⟩:ByteArray)⟩:api_Value)⟩:api_Cell)])) z3 φ):L4 x1 z0 z1 z2 z3 φ:=
 mIn <|
 mApp 5 Aa5 z2 ([(⟨true,(⟨0,0,(⟨#[]⟩:ByteArray)⟩:api_Value)⟩:api_Cell)]) h fun h=>
 mFin 3 h
theorem L5_step (x1:drossref16_Draft) (z0:List Int) (z1:Int) (z2:List api_Cell) (z3:Int) (φ:api_CFD->Prop) (h :
 q86_.L3 x1 z0 z1 z2 ((IntKind.wrap .i64 (z3+1))) φ):L5 x1 z0 z1 z2 z3 φ:=
 mIn <|
 mFin 5 h
theorem enter (x0:Int) (x1:drossref16_Draft) (φ:api_CFD->Prop) (h :
 ¬ x0=0 /\
 q86_.L1 x0 x1 ([]) 0 φ):∃ r,φ r/\C x0 x1 r:=
 mEnt (fd:=Tryz.f6) (body:=B) (V:=W) (res:=res) <|
 h.elim fun h1 h=>
 mBi 9 (Awd (t:=3) (q:=.i64) (i1:=(IntKind.wrap .i64 x1.Rhs)) h1) <|
 mFin 7 h
end q86_
namespace q76_
noncomputable def B:Code:=(Tryz.f34.body).getD .skip
def W:List Nat:=[0,2]
def res (r:Bool):D×List D:=(.lit (.bool r),[])
def C (x0:Int) (r:Bool):Prop:=Ret env 34 [.lit (.int .i64 x0)] (res r).1 (res r).2
theorem enter (x0:Int) (φ:Bool->Prop) (h :
 (if 0<=x0 then
 φ ((decide (x0<=16)))
 else
 φ false)):∃ r,φ r/\C x0 r:=
 mEnt (fd:=Tryz.f34) (body:=B) (V:=W) (res:=res) <|
 mAsk 5 h dT dF (fun h=>
 mRet 6 h) fun h=>
 mRet 6 h
end q76_
namespace q96_
noncomputable def B:Code:=(Tryz.f36.body).getD .skip
def W:List Nat:=[0,1,2,5,6]
def res (r:api_Atom):D×List D:=(.agg [.lit (.int .i64 r.Left.Var),.lit (.int .i64 r.Left.Attr),.lit (.int .i64 r.Left.Value.Kind),.lit (.int .i64 r.Left.Value.Num),.lit (.string r.Left.Value.Str),.lit (.int .i64 r.Op),.lit (.int .i64 r.Right.Var),.lit (.int .i64 r.Right.Attr),.lit (.int .i64 r.Right.Value.Kind),.lit (.int .i64 r.Right.Value.Num),.lit (.string r.Right.Value.Str)],[])
def C (x0 x1:Int) (x2:api_Value) (r:api_Atom):Prop:=Ret env 36 [.lit (.int .i64 x0),.lit (.int .i64 x1),.agg [.lit (.int .i64 x2.Kind),.lit (.int .i64 x2.Num),.lit (.string x2.Str)]] (res r).1 (res r).2
theorem enter (x0 x1:Int) (x2:api_Value) (φ:api_Atom->Prop) (h :
 ∃ r1:api_Term,q95_.C 1 x1 r1 /\
 φ ((⟨r1,x0,(⟨0,0,x2⟩:api_Term)⟩:api_Atom))):∃ r,φ r/\C x0 x1 x2 r:=
 mEnt (fd:=Tryz.f36) (body:=B) (V:=W) (res:=res) <|
 mLo 6 h (fun _ h=>h) (hf:=(fun _=>Abm (Ab1 (Aa1 rfl (Aa1 rfl (Aa1 rfl (Aa1 rfl (Aa1 rfl Aag)))))))) fun r1 _ h=>
 mRet 6 h
end q96_
namespace q77_
noncomputable def B:Code:=(Tryz.f10.body).getD .skip
def W:List Nat:=[0,1,3,4,5,6,7,8,9,10,19,23,24,25,26,43,89,91]
def res (r:List api_Denial×Int):D×List D:=(.tup [.own (r.1.map Ab3),.lit (.int .i64 r.2)],[])
def C (x0:Int) (x1:api_CFD) (r:List api_Denial×Int):Prop:=Ret env 10 [.lit (.int .i64 x0),.agg [.sl (x1.Lhs.map (eI .i64)),.lit (.int .i64 x1.Rhs),.sl (x1.Pattern.map Aa5)]] (res r).1 (res r).2
def L1 (x1:api_CFD) (z0 z1:List api_Atom) (z2:Int) (φ:List api_Denial×Int->Prop):Prop:=Pt env 10 W B [1,1,1,0,1,0] [(1,.agg [.sl (x1.Lhs.map (eI .i64)),.lit (.int .i64 x1.Rhs),.sl (x1.Pattern.map Aa5)]),(3,.box [.sl (x1.Lhs.map (eI .i64)),.lit (.int .i64 x1.Rhs),.sl (x1.Pattern.map Aa5)]),(6,.box [.lit (.int .i64 1),.own (z0.map Aa4)]),(7,.box [.lit (.int .i64 2),.own (z1.map Aa4)]),(23,.sl (x1.Lhs.map (eI .i64))),(24,.lit (.int .i64 ((x1.Lhs.length:Int)))),(25,.lit (.int .i64 z2))] (Lv env 10 Tryz.f10 2 res φ)
def L2 (x1:api_CFD) (z0 z1:List api_Atom) (z2:Int) (φ:List api_Denial×Int->Prop):Prop:=Pt env 10 W B [1,1,1,0,1,0,0,1,1,1] [(1,.agg [.sl (x1.Lhs.map (eI .i64)),.lit (.int .i64 x1.Rhs),.sl (x1.Pattern.map Aa5)]),(3,.box [.sl (x1.Lhs.map (eI .i64)),.lit (.int .i64 x1.Rhs),.sl (x1.Pattern.map Aa5)]),(6,.box [.lit (.int .i64 1),.own (z0.map Aa4)]),(7,.box [.lit (.int .i64 2),.own (z1.map Aa4)]),(23,.sl (x1.Lhs.map (eI .i64))),(24,.lit (.int .i64 ((x1.Lhs.length:Int)))),(25,.lit (.int .i64 z2))] (Lv env 10 Tryz.f10 2 res φ)
theorem L1_step (x1:api_CFD) (z0 z1:List api_Atom) (z2:Int) (φ:List api_Denial×Int->Prop) (h :
 (if z2<(x1.Lhs.length:Int) then
 ∃ a3,lget x1.Lhs z2=some a3 /\
 ∃ r5:api_Atom,q92_.C 1 a3 r5 /\
 (z1.length+1)*104<=140737488355328 /\
 ∃ a7,lget x1.Pattern z2=some a7 /\
 (if a7.Any=true then
 q77_.L2 x1 z0 ((z1++[r5])) z2 φ
 else
 ∃ r9:api_Atom,q96_.C 1 a3 a7.Value r9 /\
 (z0.length+1)*104<=140737488355328 /\
 ∃ r11:api_Atom,q96_.C 1 a3 a7.Value r11 /\
 (((z1++[r5])).length+1)*104<=140737488355328 /\
 q77_.L2 x1 ((z0++[r9])) (((z1++[r5])++[r11])) z2 φ)
 else
 ∃ a13,lget x1.Pattern ((x1.Lhs.length:Int))=some a13 /\
 ∃ r15:api_Atom,q92_.C 2 x1.Rhs r15 /\
 (z1.length+1)*104<=140737488355328 /\
 (if 20<((z1++[r15]).length:Int) then
 φ (([],3))
 else
 (if a13.Any=true then
 φ (([(⟨2,(z1++[r15])⟩:api_Denial)],0))
 else
 ∃ r17:api_Atom,q96_.C 2 x1.Rhs a13.Value r17 /\
 (z0.length+1)*104<=140737488355328 /\
 φ (([(⟨1,(z0++[r17])⟩:api_Denial),(⟨2,(z1++[r15])⟩:api_Denial)],0)))))):L1 x1 z0 z1 z2 φ:=
 mIn <|
 mAsk 2 h dT dF (fun h=>
 mIx 5 (eI .i64) h fun a3 h4 h=>
 mLo 8 h (fun _ h=>h) (hf:=(fun _=>Abm (Ab1 (Aa1 rfl (Aa1 rfl (Aa1 rfl (Aa1 rfl (Aa1 rfl (Aa1 rfl (Aa1 rfl (Aa1 rfl (Aa1 rfl (Aa1 rfl (Aa1 rfl Aag)))))))))))))) fun r5 _ h=>
 mApp 1 Aa4 z1 ([r5]) h fun h=>
 mIx 7 Aa5 h fun a7 h8 h=>
 mAsk 1 h id fls (fun h=>
 mFin 4 h) fun h=>
 mIxf 10 Aa5 h8 <|
 mLo 2 h (fun _ h=>h) (hf:=(fun _=>Abm (Ab1 (Aa1 rfl (Aa1 rfl (Aa1 rfl (Aa1 rfl (Aa1 rfl (Aa1 rfl (Aa1 rfl (Aa1 rfl (Aa1 rfl (Aa1 rfl (Aa1 rfl Aag)))))))))))))) fun r9 _ h=>
 mApp 1 Aa4 z0 ([r9]) h fun h=>
 mIxf 10 Aa5 h8 <|
 mLo 2 h (fun _ h=>h) (hf:=(fun _=>Abm (Ab1 (Aa1 rfl (Aa1 rfl (Aa1 rfl (Aa1 rfl (Aa1 rfl (Aa1 rfl (Aa1 rfl (Aa1 rfl (Aa1 rfl (Aa1 rfl (Aa1 rfl Aag)))))))))))))) fun r11 _ h=>
 mApp 1 Aa4 ((z1++[r5])) ([r11]) h fun h=>
 mFin 3 h) fun h=>
 mLen 8 (eI .i64) x1.Lhs <|
 mIx 0 Aa5 h fun a13 h14 h=>
 mLo 9 h (fun _ h=>h) (hf:=(fun _=>Abm (Ab1 (Aa1 rfl (Aa1 rfl (Aa1 rfl (Aa1 rfl (Aa1 rfl (Aa1 rfl (Aa1 rfl (Aa1 rfl (Aa1 rfl (Aa1 rfl (Aa1 rfl Aag)))))))))))))) fun r15 _ h=>
 mApp 1 Aa4 z1 ([r15]) h fun h=>
 mLen 6 Aa4 ((z1++[r15])) <|
 mAsk 0 h dT dF (fun h=>
 mRet 6 h) fun h=>
 mAsk 5 h id fls (fun h=>
 mRet 8 h) fun h=>
 mLo 10 h (fun _ h=>h) (hf:=(fun _=>Abm (Ab1 (Aa1 rfl (Aa1 rfl (Aa1 rfl (Aa1 rfl (Aa1 rfl (Aa1 rfl (Aa1 rfl (Aa1 rfl (Aa1 rfl (Aa1 rfl (Aa1 rfl Aag)))))))))))))) fun r17 _ h=>
 mApp 1 Aa4 z0 ([r17]) h fun h=>
 mRet 10 h
theorem L2_step (x1:api_CFD) (z0 z1:List api_Atom) (z2:Int) (φ:List api_Denial×Int->Prop) (h :
 q77_.L1 x1 z0 z1 ((IntKind.wrap .i64 (z2+1))) φ):L2 x1 z0 z1 z2 φ:=
 mIn <|
 mFin 4 h
theorem enter (x0:Int) (x1:api_CFD) (φ:List api_Denial×Int->Prop) (h :
 ∃ r1:Bool,q76_.C x0 r1 /\
 (if r1=true then
 ∃ r2:Bool,q51_.C x0 x1 r2 /\
 (if r2=true then
 q77_.L1 x1 ([]) ([]) 0 φ
 else
 φ (([],1)))
 else
 φ (([],1)))):∃ r,φ r/\C x0 x1 r:=
 mEnt (fd:=Tryz.f10) (body:=B) (V:=W) (res:=res) <|
 Aba 7 h (fun _ h=>h) (fun _ h=>
 Aba 4 h (fun _ h=>h) (fun _ h=>
 mLen 16 (eI .i64) x1.Lhs <|
 mFin 2 h) fun _ h=>
 mRet 8 h) fun _ h=>
 mRet 13 h
end q77_
namespace q40_
noncomputable def B:Code:=(Tryz.f31.body).getD .skip
def W:List Nat:=[0,1,3]
def res (r:Bool):D×List D:=(.lit (.bool r),[])
def C (x0:Int) (k1_0 k1_1:List Int) (r:Bool):Prop:=Ret env 31 [.lit (.int .i64 x0),.ref [.sl (k1_0.map (eI .i64)),.sl (k1_1.map (eI .i64))]] (res r).1 (res r).2
theorem enter (x0:Int) (k1_0 k1_1:List Int) (φ:Bool->Prop) (h :
 ∃ r1:Bool,q71_.C x0 ((⟨k1_0,k1_1⟩:api_OD)) r1 /\
 φ r1):∃ r,φ r/\C x0 k1_0 k1_1 r:=
 mEnt (fd:=Tryz.f31) (body:=B) (V:=W) (res:=res) <|
 mCal 6 h (fun _ h=>h) fun r1 _ h=>
 mRet 2 h
end q40_
namespace q26_
noncomputable def B:Code:=(Tryz.f30.body).getD .skip
def W:List Nat:=[0,1,2,4,5,9,16]
def res (r:Int):D×List D:=(.lit (.int .i64 r),[])
def C (x0:api_Table) (k1_0 k1_1:List Int) (r:Int):Prop:=Ret env 30 [.agg [.lit (.string x0.Name),.sl (x0.Attrs.map eS),.sl (x0.Rows.map Aa2)],.fn 31 [.ref [.sl (k1_0.map (eI .i64)),.sl (k1_1.map (eI .i64))]]] (res r).1 (res r).2
theorem enter (x0:api_Table) (k1_0 k1_1:List Int) (φ:Int->Prop) (h :
 ∃ r1:Int,q91_.C x0 r1 /\
 (if r1=0 then
 ∃ r2:Bool,q40_.C ((x0.Attrs.length:Int)) k1_0 k1_1 r2 /\
 (if r2=true then
 φ 0
 else
 φ 1)
 else
 φ r1)):∃ r,φ r/\C x0 k1_0 k1_1 r:=
 mEnt (fd:=Tryz.f30) (body:=B) (V:=W) (res:=res) <|
 mCal 6 h (fun _ h=>h) fun r1 _ h=>
 Adn 4 h Acz Acy (fun h=>
 mRet 6 h) fun h=>
 mLen 7 eS x0.Attrs <|
 Aba 0 h (fun _ h=>h) (fun _ h=>
 mRet 7 h) fun _ h=>
 mRet 6 h
end q26_
namespace q44_
noncomputable def B:Code:=(Tryz.f9.body).getD .skip
def W:List Nat:=[0,1,2,3,4,5,6,7,8,9,11,16,19,20,21,22,30,31,32,33,40]
def res (r:List (List Int)×Int):D×List D:=(.tup [.own (r.1.map (eOw (eI .i64))),.lit (.int .i64 r.2)],[])
def C (x0:api_Table) (x1:api_OD) (r:List (List Int)×Int):Prop:=Ret env 9 [.agg [.lit (.string x0.Name),.sl (x0.Attrs.map eS),.sl (x0.Rows.map Aa2)],.agg [.sl (x1.Lhs.map (eI .i64)),.sl (x1.Rhs.map (eI .i64))]] (res r).1 (res r).2
def L1 (x0:api_Table) (x1:api_OD) (z0:List (List Int)) (z1:Int) (φ:List (List Int)×Int->Prop):Prop:=Pt env 9 W B [1,1,1,0,1,0] [(0,.agg [.lit (.string x0.Name),.sl (x0.Attrs.map eS),.sl (x0.Rows.map Aa2)]),(1,.agg [.sl (x1.Lhs.map (eI .i64)),.sl (x1.Rhs.map (eI .i64))]),(2,.box [.lit (.string x0.Name),.sl (x0.Attrs.map eS),.sl (x0.Rows.map Aa2)]),(3,.box [.sl (x1.Lhs.map (eI .i64)),.sl (x1.Rhs.map (eI .i64))]),(7,.own (z0.map (eOw (eI .i64)))),(19,.sl (x0.Rows.map Aa2)),(20,.lit (.int .i64 ((x0.Rows.length:Int)))),(21,.lit (.int .i64 z1))] (Lv env 9 Tryz.f9 2 res φ)
def L2 (x0:api_Table) (x1:api_OD) (z0:List (List Int)) (a2:api_Row) (z1:Int) (z2:List api_Row) (z3 z4:Int) (φ:List (List Int)×Int->Prop):Prop:=Pt env 9 W B [1,1,1,0,1,0,0,1,1,0,0,1,1,0] [(0,.agg [.lit (.string x0.Name),.sl (x0.Attrs.map eS),.sl (x0.Rows.map Aa2)]),(1,.agg [.sl (x1.Lhs.map (eI .i64)),.sl (x1.Rhs.map (eI .i64))]),(2,.box [.lit (.string x0.Name),.sl (x0.Attrs.map eS),.sl (x0.Rows.map Aa2)]),(3,.box [.sl (x1.Lhs.map (eI .i64)),.sl (x1.Rhs.map (eI .i64))]),(7,.own (z0.map (eOw (eI .i64)))),(9,.box [.lit (.int .i64 a2.ID),.sl (a2.Values.map Aa3)]),(19,.sl (x0.Rows.map Aa2)),(20,.lit (.int .i64 ((x0.Rows.length:Int)))),(21,.lit (.int .i64 z1)),(30,.sl (z2.map Aa2)),(31,.lit (.int .i64 z3)),(32,.lit (.int .i64 z4))] (Lv env 9 Tryz.f9 2 res φ)
def L3 (x0:api_Table) (x1:api_OD) (z0:List (List Int)) (a2:api_Row) (z1:Int) (z2:List api_Row) (z3 z4:Int) (φ:List (List Int)×Int->Prop):Prop:=Pt env 9 W B [1,1,1,0,1,0,0,1,1,0,0,1,1,0,0,1,1,1] [(0,.agg [.lit (.string x0.Name),.sl (x0.Attrs.map eS),.sl (x0.Rows.map Aa2)]),(1,.agg [.sl (x1.Lhs.map (eI .i64)),.sl (x1.Rhs.map (eI .i64))]),(2,.box [.lit (.string x0.Name),.sl (x0.Attrs.map eS),.sl (x0.Rows.map Aa2)]),(3,.box [.sl (x1.Lhs.map (eI .i64)),.sl (x1.Rhs.map (eI .i64))]),(7,.own (z0.map (eOw (eI .i64)))),(9,.box [.lit (.int .i64 a2.ID),.sl (a2.Values.map Aa3)]),(19,.sl (x0.Rows.map Aa2)),(20,.lit (.int .i64 ((x0.Rows.length:Int)))),(21,.lit (.int .i64 z1)),(30,.sl (z2.map Aa2)),(31,.lit (.int .i64 z3)),(32,.lit (.int .i64 z4))] (Lv env 9 Tryz.f9 2 res φ)
theorem L1_step (x0:api_Table) (x1:api_OD) (z0:List (List Int)) (z1:Int) (φ:List (List Int)×Int->Prop) (h :
 (if z1<(x0.Rows.length:Int) then
 ∃ a2,lget x0.Rows z1=some a2 /\
 0<=(IntKind.wrap .i64 (z1+1)) /\
 (((IntKind.wrap .i64 (z1+1))).toNat<=x0.Rows.length/\x0.Rows.length<=x0.Rows.length) /\
 q44_.L2 x0 x1 z0 a2 z1 ((List.take (x0.Rows.length-((IntKind.wrap .i64 (z1+1))).toNat) (List.drop ((IntKind.wrap .i64 (z1+1))).toNat x0.Rows))) (((List.take (x0.Rows.length-((IntKind.wrap .i64 (z1+1))).toNat) (List.drop ((IntKind.wrap .i64 (z1+1))).toNat x0.Rows)).length:Int)) 0 φ
 else
 φ ((z0,0)))):L1 x0 x1 z0 z1 φ:=
 mIn <|
 mAsk 2 h dT dF (fun h=>
 mIx 5 Aa2 h fun a2 h3 h=>
 h.elim fun h4 h=>
 h.elim fun h5 h=>
 mVl 10 (An9 (t:=31) (x:=(.tmp 27)) (lo:=(some (.tmp 29))) (hi:=none) (lo':=some ((IntKind.wrap .i64 (z1+1))).toNat) (hi':=none) (e:=Aa2) (l:=x0.Rows) (et:=89) (k:=2) (by kernel_rfl) (by kernel_rfl) (Ael (i:=(IntKind.wrap .i64 (z1+1))) (q:=.i64) (by kernel_rfl) h4) Aek (by kernel_rfl) (by kernel_rfl) (fun _=>rfl) (by kernel_rfl) h5.1 h5.2) <|
 mLen 0 Aa2 ((List.take (x0.Rows.length-((IntKind.wrap .i64 (z1+1))).toNat) (List.drop ((IntKind.wrap .i64 (z1+1))).toNat x0.Rows))) <|
 mFin 2 h) fun h=>
 mRet 8 h
theorem L2_step (x0:api_Table) (x1:api_OD) (z0:List (List Int)) (a2:api_Row) (z1:Int) (z2:List api_Row) (z3 z4:Int) (φ:List (List Int)×Int->Prop) (h :
 (if z4<z3 then
 ∃ a6,lget z2 z4=some a6 /\
 ∃ r8:Int,q82_.C a2 a6 x1 r8 /\
 (if r8=0 then
 q44_.L3 x0 x1 z0 a2 z1 z2 z3 z4 φ
 else
 (z0.length+1)*24<=140737488355328 /\
 q44_.L3 x0 x1 ((z0++[[a2.ID,a6.ID]])) a2 z1 z2 z3 z4 φ)
 else
 q44_.L1 x0 x1 z0 ((IntKind.wrap .i64 (z1+1))) φ)):L2 x0 x1 z0 a2 z1 z2 z3 z4 φ:=
 mIn <|
 mAsk 2 h dT dF (fun h=>
 mIx 4 Aa2 h fun a6 h7 h=>
 mCal 8 h (fun _ h=>h) fun r8 _ h=>
 Adn 0 h Acz Acy (fun h=>
 mApp 10 (eOw (eI .i64)) z0 ([[a2.ID,a6.ID]]) h fun h=>
 mFin 2 h) fun h=>
 mFin 3 h) fun h=>
 mFin 7 h
theorem L3_step (x0:api_Table) (x1:api_OD) (z0:List (List Int)) (a2:api_Row) (z1:Int) (z2:List api_Row) (z3 z4:Int) (φ:List (List Int)×Int->Prop) (h :
 q44_.L2 x0 x1 z0 a2 z1 z2 z3 ((IntKind.wrap .i64 (z4+1))) φ):L3 x0 x1 z0 a2 z1 z2 z3 z4 φ:=
 mIn <|
 mFin 4 h
theorem enter (x0:api_Table) (x1:api_OD) (φ:List (List Int)×Int->Prop) (h :
 ∃ r1:Int,q26_.C x0 x1.Lhs x1.Rhs r1 /\
 (if r1=0 then
 q44_.L1 x0 x1 ([]) 0 φ
 else
 φ (([],r1)))):∃ r,φ r/\C x0 x1 r:=
 mEnt (fd:=Tryz.f9) (body:=B) (V:=W) (res:=res) <|
 mCal 9 h (fun _ h=>h) fun r1 _ h=>
 Adn 4 h Acz Acy (fun h=>
 mRet 7 h) fun h=>
 mLen 9 Aa2 x0.Rows <|
 mFin 2 h
end q44_
namespace q68_
noncomputable def B:Code:=(Tryz.f37.body).getD .skip
def W:List Nat:=[0,1,2]
def res (r:api_OD):D×List D:=(.agg [.own (r.Lhs.map (eI .i64)),.own (r.Rhs.map (eI .i64))],[])
def C (x0 r:api_OD):Prop:=Ret env 37 [.agg [.sl (x0.Lhs.map (eI .i64)),.sl (x0.Rhs.map (eI .i64))]] (res r).1 (res r).2
theorem enter (x0:api_OD) (φ:api_OD->Prop) (h :
 ∃ r1:List Int,q84_.C x0.Lhs r1 /\
 ∃ r2:List Int,q84_.C x0.Rhs r2 /\
 φ ((⟨r1,r2⟩:api_OD))):∃ r,φ r/\C x0 r:=
 mEnt (fd:=Tryz.f37) (body:=B) (V:=W) (res:=res) <|
 mLo 7 h (fun _ h=>h) (hf:=(fun _=>Abm (Ab9 (e:=(eI .i64)) (fun _=>rfl)))) fun r1 _ h=>
 mCal 2 h (fun _ h=>h) (hf:=(fun _=>Ac4 (Ab9 (e:=(eI .i64)) (fun _=>rfl)) rfl)) fun r2 _ h=>
 mRet 3 h
end q68_
namespace q87_
noncomputable def B:Code:=(Tryz.f11.body).getD .skip
def W:List Nat:=[0,1,3,4,5,6,7,8,9,11,13,22,28,29,30,34,35,36,42,43,44,45,60,75,76,77,78]
def res (r:List api_Denial×Int):D×List D:=(.tup [.own (r.1.map Ab3),.lit (.int .i64 r.2)],[])
def C (x0:Int) (x1:api_OD) (r:List api_Denial×Int):Prop:=Ret env 11 [.lit (.int .i64 x0),.agg [.sl (x1.Lhs.map (eI .i64)),.sl (x1.Rhs.map (eI .i64))]] (res r).1 (res r).2
def L1 (x1 r3:api_OD) (z0:List api_Denial) (z1:Int) (φ:List api_Denial×Int->Prop):Prop:=Pt env 11 W B [1,1,1,1,0,1,0] [(1,.agg [.sl (x1.Lhs.map (eI .i64)),.sl (x1.Rhs.map (eI .i64))]),(3,.box [.own (r3.Lhs.map (eI .i64)),.own (r3.Rhs.map (eI .i64))]),(6,.own (z0.map Ab3)),(28,.lit (.int .i64 ((IntKind.wrap .i64 ((r3.Lhs.length:Int)+1))))),(29,.lit (.int .i64 z1))] (Lv env 11 Tryz.f11 2 res φ)
def L2 (x1 r3:api_OD) (z0:List api_Denial) (z1 z2 z3:Int) (φ:List api_Denial×Int->Prop):Prop:=Pt env 11 W B [1,1,1,1,0,1,0,0,1,1,0,0,1,1,0] [(1,.agg [.sl (x1.Lhs.map (eI .i64)),.sl (x1.Rhs.map (eI .i64))]),(3,.box [.own (r3.Lhs.map (eI .i64)),.own (r3.Rhs.map (eI .i64))]),(6,.own (z0.map Ab3)),(7,.lit (.int .i64 z1)),(28,.lit (.int .i64 ((IntKind.wrap .i64 ((r3.Lhs.length:Int)+1))))),(29,.lit (.int .i64 z2)),(34,.lit (.int .i64 ((r3.Rhs.length:Int)))),(35,.lit (.int .i64 z3))] (Lv env 11 Tryz.f11 2 res φ)
def L3 (x1 r3:api_OD) (z0:List api_Denial) (z1 z2:Int) (z3:List api_Atom) (z4 z5:Int) (y42_n_L3:Nat) (z6 z7:Int) (φ:List api_Denial×Int->Prop):Prop:=Pt env 11 W B [1,1,1,1,0,1,0,0,1,1,0,0,1,1,0,0,1,1,0,0,1,1,0,1,0] [(1,.agg [.sl (x1.Lhs.map (eI .i64)),.sl (x1.Rhs.map (eI .i64))]),(3,.box [.own (r3.Lhs.map (eI .i64)),.own (r3.Rhs.map (eI .i64))]),(6,.own (z0.map Ab3)),(7,.lit (.int .i64 z1)),(8,.lit (.int .i64 z2)),(9,.box [.lit (.int .i64 2),.own (z3.map Aa4)]),(28,.lit (.int .i64 ((IntKind.wrap .i64 ((r3.Lhs.length:Int)+1))))),(29,.lit (.int .i64 z4)),(34,.lit (.int .i64 ((r3.Rhs.length:Int)))),(35,.lit (.int .i64 z5)),(42,.sub 3 [(0,0)] 0 y42_n_L3),(43,.lit (.int .i64 z6)),(44,.lit (.int .i64 z7))] (Lv env 11 Tryz.f11 2 res φ)
def L5 (x1 r3:api_OD) (z0:List api_Denial) (z1 z2:Int) (z3:List api_Atom) (z4 z5:Int) (φ:List api_Denial×Int->Prop):Prop:=Pt env 11 W B [1,1,1,1,0,1,0,0,1,1,0,0,1,1,0,0,1,1,0,0,1,1,1,1,0,0] [(1,.agg [.sl (x1.Lhs.map (eI .i64)),.sl (x1.Rhs.map (eI .i64))]),(3,.box [.own (r3.Lhs.map (eI .i64)),.own (r3.Rhs.map (eI .i64))]),(6,.own (z0.map Ab3)),(7,.lit (.int .i64 z1)),(8,.lit (.int .i64 z2)),(9,.box [.lit (.int .i64 2),.own (z3.map Aa4)]),(28,.lit (.int .i64 ((IntKind.wrap .i64 ((r3.Lhs.length:Int)+1))))),(29,.lit (.int .i64 z4)),(34,.lit (.int .i64 ((r3.Rhs.length:Int)))),(35,.lit (.int .i64 z5))] (Lv env 11 Tryz.f11 2 res φ)
def L4 (x1 r3:api_OD) (z0:List api_Denial) (z1 z2:Int) (z3:List api_Atom) (z4 z5:Int) (y75_n_L4:Nat) (z6 z7:Int) (φ:List api_Denial×Int->Prop):Prop:=Pt env 11 W B [1,1,1,1,0,1,0,0,1,1,0,0,1,1,0,0,1,1,0,0,1,1,1,1,0,1,0] [(1,.agg [.sl (x1.Lhs.map (eI .i64)),.sl (x1.Rhs.map (eI .i64))]),(3,.box [.own (r3.Lhs.map (eI .i64)),.own (r3.Rhs.map (eI .i64))]),(6,.own (z0.map Ab3)),(7,.lit (.int .i64 z1)),(8,.lit (.int .i64 z2)),(9,.box [.lit (.int .i64 2),.own (z3.map Aa4)]),(28,.lit (.int .i64 ((IntKind.wrap .i64 ((r3.Lhs.length:Int)+1))))),(29,.lit (.int .i64 z4)),(34,.lit (.int .i64 ((r3.Rhs.length:Int)))),(35,.lit (.int .i64 z5)),(75,.sub 3 [(0,1)] 0 y75_n_L4),(76,.lit (.int .i64 z6)),(77,.lit (.int .i64 z7))] (Lv env 11 Tryz.f11 2 res φ)
theorem L1_step (x1 r3:api_OD) (z0:List api_Denial) (z1:Int) (φ:List api_Denial×Int->Prop) (h :
 (if z1<(IntKind.wrap .i64 ((r3.Lhs.length:Int)+1)) then
 q87_.L2 x1 r3 z0 z1 z1 0 φ
 else
 φ ((z0,0)))):L1 x1 r3 z0 z1 φ:=
 mIn <|
 mAsk 2 h dT dF (fun h=>
 mLen 10 (eI .i64) r3.Rhs <|
 mFin 2 h) fun h=>
 mRet 8 h
theorem L2_step (x1 r3:api_OD) (z0:List api_Denial) (z1 z2 z3:Int) (φ:List api_Denial×Int->Prop) (h :
 (if z3<(r3.Rhs.length:Int) then
 0<=z1 /\
 (0<=z1.toNat/\z1.toNat<=r3.Lhs.length) /\
 0+(z1.toNat-0)<=r3.Lhs.length /\
 q87_.L3 x1 r3 z0 z1 z3 ([]) z2 z3 ((z1.toNat-0)) (((List.take (z1.toNat-0) (List.drop 0 r3.Lhs)).length:Int)) 0 φ
 else
 q87_.L1 x1 r3 z0 ((IntKind.wrap .i64 (z2+1))) φ)):L2 x1 r3 z0 z1 z2 z3 φ:=
 mIn <|
 mAsk 2 h dT dF (fun h=>
 h.elim fun h4 h=>
 h.elim fun h5 h=>
 mVl 16 (Agq (s:=3) (ps:=[(0,0)]) (t:=37) (x:=(.tmp 40)) (lo:=none) (hi:=(some (.tmp 41))) (lo':=none) (hi':=some (z1).toNat) (e:=(eI .i64)) (l:=r3.Lhs) (et:=3) (k:=1) (by kernel_rfl) (by kernel_rfl) (Ahv (by kernel_rfl)) Aek (Ael (i:=z1) (q:=.i64) (by kernel_rfl) h4) (by kernel_rfl) (by kernel_rfl) (fun _=>rfl) (by kernel_rfl) h5.1 h5.2) <|
 h.elim fun h6 h=>
 mVl 0 (Ao1 (x:=(.tmp 42)) (t:=37) (et:=3) (d:=.sub 3 [(0,0)] 0 ((z1.toNat-0))) (e:=(eI .i64)) (l:=(List.take (z1.toNat-0) (List.drop 0 r3.Lhs))) (by kernel_rfl) (by kernel_rfl) (Afq (s:=3) (ps:=[(0,0)]) (l:=r3.Lhs) (e:=(eI .i64)) (by kernel_rfl) h6) (by kernel_rfl)) <|
 mFin 2 h) fun h=>
 mFin 7 h
theorem L3_step (x1 r3:api_OD) (z0:List api_Denial) (z1 z2:Int) (z3:List api_Atom) (z4 z5:Int) (y42_n_L3:Nat) (z6 z7:Int) (φ:List api_Denial×Int->Prop) (h :
 (if z7<z6 then
 ∃ a9,lget r3.Lhs (((0:Int)+z7))=some a9 /\
 (0<=z7/\z7<((y42_n_L3:Nat):Int)) /\
 0+y42_n_L3<=r3.Lhs.length /\
 ∃ r11:api_Atom,q92_.C 1 a9 r11 /\
 (z3.length+1)*104<=140737488355328 /\
 q87_.L3 x1 r3 z0 z1 z2 ((z3++[r11])) z4 z5 y42_n_L3 z6 ((IntKind.wrap .i64 (z7+1))) φ
 else
 (if z1<(r3.Lhs.length:Int) then
 ∃ a13,lget r3.Lhs z1=some a13 /\
 ∃ r15:api_Atom,q92_.C 3 a13 r15 /\
 (z3.length+1)*104<=140737488355328 /\
 q87_.L5 x1 r3 z0 z1 z2 ((z3++[r15])) z4 z5 φ
 else
 q87_.L5 x1 r3 z0 z1 z2 z3 z4 z5 φ))):L3 x1 r3 z0 z1 z2 z3 z4 z5 y42_n_L3 z6 z7 φ:=
 mIn <|
 mAsk 2 h dT dF (fun h=>
 h.elim fun a9 h=>h.elim fun h10 h=>
 h.elim fun h8 h=>
 h.elim fun h7 h=>
 mVl 4 (Aht (s:=3) (ps:=[(0,0)]) (off:=0) (len:=y42_n_L3) (t:=37) (x:=(.tmp 42)) (ix:=(.tmp 44)) (et:=3) (k:=1) (e:=(eI .i64)) (l:=r3.Lhs) (i:=z7) (q:=.i64) (a:=a9) (by kernel_rfl) (by kernel_rfl) (by kernel_rfl) (by kernel_rfl) (by kernel_rfl) (by kernel_rfl) h7 h8 h10 (by kernel_rfl)) <|
 mLd 0 (eI .i64) h10 <|
 mLo 6 h (fun _ h=>h) (hf:=(fun _=>Abm (Ab1 (Aa1 rfl (Aa1 rfl (Aa1 rfl (Aa1 rfl (Aa1 rfl (Aa1 rfl (Aa1 rfl (Aa1 rfl (Aa1 rfl (Aa1 rfl (Aa1 rfl Aag)))))))))))))) fun r11 _ h=>
 mApp 1 Aa4 z3 ([r11]) h fun h=>
 mFin 7 h) fun h=>
 mLen 7 (eI .i64) r3.Lhs <|
 mAsk 0 h dT dF (fun h=>
 mIy 8 (eI .i64) h fun a13 h14 h=>
 mLd 0 (eI .i64) h14 <|
 mLo 0 h (fun _ h=>h) (hf:=(fun _=>Abm (Ab1 (Aa1 rfl (Aa1 rfl (Aa1 rfl (Aa1 rfl (Aa1 rfl (Aa1 rfl (Aa1 rfl (Aa1 rfl (Aa1 rfl (Aa1 rfl (Aa1 rfl Aag)))))))))))))) fun r15 _ h=>
 mApp 1 Aa4 z3 ([r15]) h fun h=>
 mFin 3 h) fun h=>
 mFin 3 h
theorem L5_step (x1 r3:api_OD) (z0:List api_Denial) (z1 z2:Int) (z3:List api_Atom) (z4 z5:Int) (φ:List api_Denial×Int->Prop) (h :
 0<=z2 /\
 (0<=z2.toNat/\z2.toNat<=r3.Rhs.length) /\
 0+(z2.toNat-0)<=r3.Rhs.length /\
 q87_.L4 x1 r3 z0 z1 z2 z3 z4 z5 ((z2.toNat-0)) (((List.take (z2.toNat-0) (List.drop 0 r3.Rhs)).length:Int)) 0 φ):L5 x1 r3 z0 z1 z2 z3 z4 z5 φ:=
 mIn <|
 h.elim fun h17 h=>
 h.elim fun h18 h=>
 mVl 4 (Agq (s:=3) (ps:=[(0,1)]) (t:=37) (x:=(.tmp 73)) (lo:=none) (hi:=(some (.tmp 74))) (lo':=none) (hi':=some (z2).toNat) (e:=(eI .i64)) (l:=r3.Rhs) (et:=3) (k:=1) (by kernel_rfl) (by kernel_rfl) (Ahv (by kernel_rfl)) Aek (Ael (i:=z2) (q:=.i64) (by kernel_rfl) h17) (by kernel_rfl) (by kernel_rfl) (fun _=>rfl) (by kernel_rfl) h18.1 h18.2) <|
 h.elim fun h19 h=>
 mVl 0 (Ao1 (x:=(.tmp 75)) (t:=37) (et:=3) (d:=.sub 3 [(0,1)] 0 ((z2.toNat-0))) (e:=(eI .i64)) (l:=(List.take (z2.toNat-0) (List.drop 0 r3.Rhs))) (by kernel_rfl) (by kernel_rfl) (Afq (s:=3) (ps:=[(0,1)]) (l:=r3.Rhs) (e:=(eI .i64)) (by kernel_rfl) h19) (by kernel_rfl)) <|
 mFin 2 h
theorem L4_step (x1 r3:api_OD) (z0:List api_Denial) (z1 z2:Int) (z3:List api_Atom) (z4 z5:Int) (y75_n_L4:Nat) (z6 z7:Int) (φ:List api_Denial×Int->Prop) (h :
 (if z7<z6 then
 ∃ a22,lget r3.Rhs (((0:Int)+z7))=some a22 /\
 (0<=z7/\z7<((y75_n_L4:Nat):Int)) /\
 0+y75_n_L4<=r3.Rhs.length /\
 ∃ r24:api_Atom,q92_.C 1 a22 r24 /\
 (z3.length+1)*104<=140737488355328 /\
 q87_.L4 x1 r3 z0 z1 z2 ((z3++[r24])) z4 z5 y75_n_L4 z6 ((IntKind.wrap .i64 (z7+1))) φ
 else
 ∃ a26,lget r3.Rhs z2=some a26 /\
 ∃ r28:api_Term,q95_.C 2 a26 r28 /\
 ∃ r29:api_Term,q95_.C 1 a26 r29 /\
 (z3.length+1)*104<=140737488355328 /\
 (z0.length+1)*32<=140737488355328 /\
 q87_.L2 x1 r3 ((z0++[(⟨2,(z3++[(⟨r28,3,r29⟩:api_Atom)])⟩:api_Denial)])) z1 z4 ((IntKind.wrap .i64 (z5+1))) φ)):L4 x1 r3 z0 z1 z2 z3 z4 z5 y75_n_L4 z6 z7 φ:=
 mIn <|
 mAsk 2 h dT dF (fun h=>
 h.elim fun a22 h=>h.elim fun h23 h=>
 h.elim fun h21 h=>
 h.elim fun h20 h=>
 mVl 4 (Aht (s:=3) (ps:=[(0,1)]) (off:=0) (len:=y75_n_L4) (t:=37) (x:=(.tmp 75)) (ix:=(.tmp 77)) (et:=3) (k:=1) (e:=(eI .i64)) (l:=r3.Rhs) (i:=z7) (q:=.i64) (a:=a22) (by kernel_rfl) (by kernel_rfl) (by kernel_rfl) (by kernel_rfl) (by kernel_rfl) (by kernel_rfl) h20 h21 h23 (by kernel_rfl)) <|
 mLd 0 (eI .i64) h23 <|
 mLo 6 h (fun _ h=>h) (hf:=(fun _=>Abm (Ab1 (Aa1 rfl (Aa1 rfl (Aa1 rfl (Aa1 rfl (Aa1 rfl (Aa1 rfl (Aa1 rfl (Aa1 rfl (Aa1 rfl (Aa1 rfl (Aa1 rfl Aag)))))))))))))) fun r24 _ h=>
 mApp 1 Aa4 z3 ([r24]) h fun h=>
 mFin 7 h) fun h=>
 mIy 9 (eI .i64) h fun a26 h27 h=>
 mLd 0 (eI .i64) h27 <|
 mLo 0 h (fun _ h=>h) (hf:=(fun _=>Abm (Ab1 (Aa1 rfl (Aa1 rfl (Aa1 rfl (Aa1 rfl (Aa1 rfl Aag)))))))) fun r28 _ h=>
 mIyf 3 (eI .i64) h27 <|
 mLd 0 (eI .i64) h27 <|
 mLo 0 h (fun _ h=>h) (hf:=(fun _=>Abm (Ab1 (Aa1 rfl (Aa1 rfl (Aa1 rfl (Aa1 rfl (Aa1 rfl Aag)))))))) fun r29 _ h=>
 mApp 2 Aa4 z3 ([(⟨r28,3,r29⟩:api_Atom)]) h fun h=>
 mApp 7 Ab3 z0 ([(⟨2,(z3++[(⟨r28,3,r29⟩:api_Atom)])⟩:api_Denial)]) h fun h=>
 mFin 6 h
theorem enter (x0:Int) (x1:api_OD) (φ:List api_Denial×Int->Prop) (h :
 ∃ r1:Bool,q76_.C x0 r1 /\
 (if r1=true then
 ∃ r2:Bool,q71_.C x0 x1 r2 /\
 (if r2=true then
 ∃ r3:api_OD,q68_.C x1 r3 /\
 q87_.L1 x1 r3 ([]) 0 φ
 else
 φ (([],1)))
 else
 φ (([],1)))):∃ r,φ r/\C x0 x1 r:=
 mEnt (fd:=Tryz.f11) (body:=B) (V:=W) (res:=res) <|
 Aba 7 h (fun _ h=>h) (fun _ h=>
 Aba 4 h (fun _ h=>h) (fun _ h=>
 mCal 7 h (fun _ h=>h) (hf:=(fun _=>Ac4 (Ab1 (Aa1 (Ab9 (e:=(eI .i64)) (fun _=>rfl)) (Aa1 (Ab9 (e:=(eI .i64)) (fun _=>rfl)) Aag))) rfl)) fun r3 _ h=>
 mLen 8 (eI .i64) r3.Lhs <|
 mFin 3 h) fun _ h=>
 mRet 8 h) fun _ h=>
 mRet 13 h
end q87_
namespace q60_
noncomputable def B:Code:=(Tryz.f14.body).getD .skip
def W:List Nat:=[0,1,4,5,10,14,36]
def res (r:Bool):D×List D:=(.lit (.bool r),[])
def C (x0 x1:List (List Int)) (r:Bool):Prop:=Ret env 14 [.sl (x0.map (eSl (eI .i64))),.sl (x1.map (eSl (eI .i64)))] (res r).1 (res r).2
def L1 (x0 x1:List (List Int)) (z0:Int) (φ:Bool->Prop):Prop:=Pt env 14 W B [1,1,0,1,0] [(0,.sl (x0.map (eSl (eI .i64)))),(1,.sl (x1.map (eSl (eI .i64)))),(5,.lit (.int .i64 z0))] (Lv env 14 Tryz.f14 2 res φ)
theorem L1_step (x0 x1:List (List Int)) (z0:Int) (φ:Bool->Prop) (h :
 (if z0<(x0.length:Int) then
 ∃ a1,lget x0 z0=some a1 /\
 ∃ a3,lget x1 z0=some a3 /\
 ∃ r5:Bool,q49_.C a1 a3 r5 /\
 (if r5=true then
 φ false
 else
 ∃ r6:Bool,q49_.C a3 a1 r6 /\
 (if r6=true then
 φ false
 else
 q60_.L1 x0 x1 ((IntKind.wrap .i64 (z0+1))) φ))
 else
 φ true)):L1 x0 x1 z0 φ:=
 mIn <|
 mLen 4 (eSl (eI .i64)) x0 <|
 mAsk 0 h dT dF (fun h=>
 mIx 6 (eSl (eI .i64)) h fun a1 h2 h=>
 mIx 3 (eSl (eI .i64)) h fun a3 h4 h=>
 Aba 1 h (fun _ h=>h) (fun _ h=>
 mRet 16 h) fun _ h=>
 mIxf 3 (eSl (eI .i64)) h4 <|
 mIxf 3 (eSl (eI .i64)) h2 <|
 Aba 1 h (fun _ h=>h) (fun _ h=>
 mRet 6 h) fun _ h=>
 mFin 9 h) fun h=>
 mRet 6 h
theorem enter (x0 x1:List (List Int)) (φ:Bool->Prop) (h :
 (if (x0.length:Int)=(x1.length:Int) then
 q60_.L1 x0 x1 0 φ
 else
 φ false)):∃ r,φ r/\C x0 x1 r:=
 mEnt (fd:=Tryz.f14) (body:=B) (V:=W) (res:=res) <|
 mLen 5 (eSl (eI .i64)) x0 <|
 mLen 1 (eSl (eI .i64)) x1 <|
 Adn 0 h Acz Acy (fun h=>
 mRet 5 h) fun h=>
 mFin 6 h
end q60_
namespace q61_
def res (r:Bool):D×List D:=(.lit (.bool r),[])
def C  (r:Bool):Prop:=Ret env 5 [] (res r).1 (res r).2
end q61_
end Go.Own
namespace Go.Own
set_option maxRecDepth 1000000
theorem q61_.run:Ab8 env 400 5 []=some (.lit (.bool true),[]):=by kernel_rfl
theorem q61_.spec:q61_.C true:=Ret.of q61_.run
end Go.Own
namespace Go.Own
open Go.Proofs D
set_option maxRecDepth 100000
set_option maxHeartbeats 4000000
namespace drosstop_TopTranslations
noncomputable def B:Code:=(Tryz.f3.body).getD .skip
def W:List Nat:=[0,1,2,3,4,5,6,7,8,9,10,11,12,13,14,15,16,17,18,19,20,21,22,23,24,26,62,107,120,121,122,123]
def res (r:Bool):D×List D:=(.lit (.bool r),[])
def C (x0:drossref03_Recipe) (x1:drossref16_Draft) (x2:drossref17_Lists) (r:Bool):Prop:=Ret env 3 [.agg [.lit (.int .u8 x0.Attrs),.lit (.int .u8 x0.Gap),.sl (x0.Rows.map (eSl (eI .u8)))],.agg [.lit (.int .u8 x1.Lhs),.lit (.int .u8 x1.Rhs),.sl (x1.Codes.map (eI .u8))],.agg [.sl (x2.X.map (eI .u8)),.sl (x2.Y.map (eI .u8))]] (res r).1 (res r).2
def L1  (φ:Bool->Prop):Prop:=Pt env 3 W B [1,1,1,0,1,0,0] [] (Lv env 3 Tryz.f3 3 res φ)
def L2 (r5 r6:List (List Int)×Int) (r9 r10:List (List Int)×Bool) (z0:List (List Int)) (z1:Int) (φ:Bool->Prop):Prop:=Pt env 3 W B [1,1,1,1,1,1,1,1,1,1,1,1,1,0,1,0] [(12,.sl (r5.1.map (eSl (eI .i64)))),(14,.sl (r6.1.map (eSl (eI .i64)))),(20,.sl (r9.1.map (eSl (eI .i64)))),(21,.lit (.bool r9.2)),(22,.sl (r10.1.map (eSl (eI .i64)))),(23,.lit (.bool r10.2)),(24,.own (z0.map (eSl (eI .i64)))),(120,.sl (r5.1.map (eSl (eI .i64)))),(121,.lit (.int .i64 ((r5.1.length:Int)))),(122,.lit (.int .i64 z1))] (Lv env 3 Tryz.f3 3 res φ)
theorem L1_step  (φ:Bool->Prop) (h :
 ∃ r11:Bool,q61_.C  r11 /\
 φ r11):L1  φ:=
 mIn <|
 mCal 1 h (fun _ h=>h) fun r11 _ h=>
 mRet 2 h
theorem L2_step (r5 r6:List (List Int)×Int) (r9 r10:List (List Int)×Bool) (z0:List (List Int)) (z1:Int) (φ:Bool->Prop) (h :
 (if z1<(r5.1.length:Int) then
 ∃ a12,lget r5.1 z1=some a12 /\
 ∃ r14:List (List Int),q70_.C a12 z0 r14 /\
 drosstop_TopTranslations.L2 r5 r6 r9 r10 r14 ((IntKind.wrap .i64 (z1+1))) φ
 else
 (if r9.2=true then
 (if r10.2=true then
 ∃ r15:Bool,q60_.C z0 r9.1 r15 /\
 (if r15=true then
 ∃ r16:Bool,q60_.C r6.1 r10.1 r16 /\
 φ r16
 else
 φ false)
 else
 φ false)
 else
 φ false))):L2 r5 r6 r9 r10 z0 z1 φ:=
 mIn <|
 mAsk 2 h dT dF (fun h=>
 mIx 4 (eSl (eI .i64)) h fun a12 h13 h=>
 mCal 6 h (fun _ h=>h) (hf:=(fun _=>Ab7)) fun r14 _ h=>
 mFin 6 h) fun h=>
 mAsk 4 h id fls (fun h=>
 mAsk 1 h id fls (fun h=>
 Aba 4 h (fun _ h=>h) (hr:=by exact (Akn (Anz (s:=24) (ps:=[]) (l:=z0) (e:=(eSl (eI .i64))) (e':=(eSl (eI .i64))) (fun _=>rfl) (by kernel_rfl)) (pr_k Aqp))) (fun _ h=>
 mCal 4 h (fun _ h=>h) fun r16 _ h=>
 mRet 3 h) fun _ h=>
 mRet 8 h) fun h=>
 mRet 13 h) fun h=>
 mRet 15 h
theorem enter (x0:drossref03_Recipe) (x1:drossref16_Draft) (x2:drossref17_Lists) (φ:Bool->Prop) (h :
 ∃ r1:api_Table×Bool,q53_.C x0 7 r1 /\
 ∃ r2:Bool,q61_.C  r2 /\
 (if r2=true then
 (if r1.2=true then
 (if (r1.1.Attrs.length:Int)=0 then
 drosstop_TopTranslations.L1  φ
 else
 (if 20<(x1.Codes.length:Int) then
 drosstop_TopTranslations.L1  φ
 else
 (if 8<(x2.X.length:Int) then
 drosstop_TopTranslations.L1  φ
 else
 (if 8<(x2.Y.length:Int) then
 drosstop_TopTranslations.L1  φ
 else
 ∃ r3:api_CFD,q86_.C ((r1.1.Attrs.length:Int)) x1 r3 /\
 ∃ r4:api_OD,q85_.C ((r1.1.Attrs.length:Int)) x2 r4 /\
 ∃ r5:List (List Int)×Int,q36_.C r1.1 r3 r5 /\
 ∃ r6:List (List Int)×Int,q44_.C r1.1 r4 r6 /\
 ∃ r7:List api_Denial×Int,q77_.C ((r1.1.Attrs.length:Int)) r3 r7 /\
 ∃ r8:List api_Denial×Int,q87_.C ((r1.1.Attrs.length:Int)) r4 r8 /\
 (if r5.2=0 then
 (if r6.2=0 then
 (if r7.2=0 then
 (if r8.2=0 then
 ∃ r9:List (List Int)×Bool,q39_.C r1.1 r7.1 r9 /\
 ∃ r10:List (List Int)×Bool,q39_.C r1.1 r8.1 r10 /\
 drosstop_TopTranslations.L2 r5 r6 r9 r10 ([]) 0 φ
 else
 φ false)
 else
 φ false)
 else
 φ false)
 else
 φ false)))))
 else
 drosstop_TopTranslations.L1  φ)
 else
 drosstop_TopTranslations.L1  φ)):∃ r,φ r/\C x0 x1 x2 r:=
 mEnt (fd:=Tryz.f3) (body:=B) (V:=W) (res:=res) <|
 Ajk 8 h (fun _ h=>h) (fun (r1:api_Table×Bool)=>Aet rfl (Aan (Aq4 (Aan rfl (Aan (Ab6 (e:=eS) (e':=eS) (fun _=>rfl) r1.1.Attrs) (Aan (Ab6 (e:=Acj) (e':=Aa2) (fun x=>(Aan rfl (Aan (Ab6 (e:=Aa3) (e':=Aa3) (fun _=>rfl) x.Values) Acq))) r1.1.Rows) Acq)))) (Aan rfl Acq))) (hf:=(fun _=>Ac4 (Afx (Aa1 (Ab1 (Aa1 rfl (Aa1 (Ab9 (e:=eS) (fun _=>rfl)) (Aa1 (Ab9 (e:=Acj) (fun _=>(Aa1 rfl (Aa1 (Ab9 (e:=Aa3) (fun _=>rfl)) Aag)))) Aag)))) (Aa1 rfl Aag))) rfl)) fun r1 _ h=>
 mLen 10 eS r1.1.Attrs <|
 Aba 3 h (fun _ h=>h) (fun _ h=>
 mAsk 2 h id fls (fun h=>
 mAsk 4 h Aax Aaw (fun h=>
 mFin 21 h) fun h=>
 mLen 4 (eI .u8) x1.Codes <|
 mAsk 0 h dT dF (fun h=>
 mFin 15 h) fun h=>
 mLen 4 (eI .u8) x2.X <|
 mAsk 0 h dT dF (fun h=>
 mFin 9 h) fun h=>
 mLen 4 (eI .u8) x2.Y <|
 mAsk 0 h dT dF (fun h=>
 mFin 3 h) fun h=>
 mLoE 7 h (fun _ h=>h) (fun (r3:api_CFD)=>Aua rfl (Aan (Ab6 (e:=(eI .i64)) (e':=(eI .i64)) (fun _=>rfl) r3.Lhs) (Aan rfl (Aan (Ab6 (e:=Aa5) (e':=Aa5) (fun _=>rfl) r3.Pattern) Acq)))) (hf:=(fun _=>Abm (Ab1 (Aa1 (Ab9 (e:=(eI .i64)) (fun _=>rfl)) (Aa1 rfl (Aa1 (Ab9 (e:=Aa5) (fun _=>rfl)) Aag)))))) fun r3 _ h=>
 mLoE 2 h (fun _ h=>h) (fun (r4:api_OD)=>Aua rfl (Aan (Ab6 (e:=(eI .i64)) (e':=(eI .i64)) (fun _=>rfl) r4.Lhs) (Aan (Ab6 (e:=(eI .i64)) (e':=(eI .i64)) (fun _=>rfl) r4.Rhs) Acq))) (hf:=(fun _=>Abm (Ab1 (Aa1 (Ab9 (e:=(eI .i64)) (fun _=>rfl)) (Aa1 (Ab9 (e:=(eI .i64)) (fun _=>rfl)) Aag))))) fun r4 _ h=>
 Ajk 8 h (fun _ h=>h) (fun (r5:List (List Int)×Int)=>Aet rfl (Aan (Ab6 (e:=(eSl (eI .i64))) (e':=(eSl (eI .i64))) (fun _=>rfl) r5.1) (Aan rfl Acq))) (hf:=(fun _=>Ab7)) fun r5 _ h=>
 Ajk 9 h (fun _ h=>h) (fun (r6:List (List Int)×Int)=>Aet rfl (Aan (Ab6 (e:=(eOw (eI .i64))) (e':=(eSl (eI .i64))) (Fzn.ow (fun _=>rfl)) r6.1) (Aan rfl Acq))) (hf:=(fun _=>Ac4 (Afx (Aa1 (Ab9 (e:=(eOw (eI .i64))) (Flt.ow (fun _=>rfl))) (Aa1 rfl Aag))) rfl)) fun r6 _ h=>
 Ajk 9 h (fun _ h=>h) (fun (r7:List api_Denial×Int)=>Aet rfl (Aan (Ab6 (e:=Ab3) (e':=Abl) (fun x=>(Aan rfl (Aan (Ab6 (e:=Aa4) (e':=Aa4) (fun _=>rfl) x.Atoms) Acq))) r7.1) (Aan rfl Acq))) (hf:=(fun _=>Ac4 (Afx (Aa1 (Ab9 (e:=Ab3) (fun _=>(Aa1 rfl (Aa1 (Ab9 (e:=Aa4) (fun _=>rfl)) Aag)))) (Aa1 rfl Aag))) rfl)) fun r7 _ h=>
 Ajk 9 h (fun _ h=>h) (fun (r8:List api_Denial×Int)=>Aet rfl (Aan (Ab6 (e:=Ab3) (e':=Abl) (fun x=>(Aan rfl (Aan (Ab6 (e:=Aa4) (e':=Aa4) (fun _=>rfl) x.Atoms) Acq))) r8.1) (Aan rfl Acq))) (hf:=(fun _=>Ac4 (Afx (Aa1 (Ab9 (e:=Ab3) (fun _=>(Aa1 rfl (Aa1 (Ab9 (e:=Aa4) (fun _=>rfl)) Aag)))) (Aa1 rfl Aag))) rfl)) fun r8 _ h=>
 Adn 8 h Acz Acy (fun h=>
 mRet 17 h) fun h=>
 Adn 2 h Acz Acy (fun h=>
 mRet 14 h) fun h=>
 Adn 3 h Acz Acy (fun h=>
 mRet 10 h) fun h=>
 Adn 3 h Acz Acy (fun h=>
 mRet 6 h) fun h=>
 Ajk 7 h (fun _ h=>h) (fun (r9:List (List Int)×Bool)=>Aet rfl (Aan (Ab6 (e:=(eSl (eI .i64))) (e':=(eSl (eI .i64))) (fun _=>rfl) r9.1) (Aan rfl Acq))) (hf:=(fun _=>Ab7)) fun r9 _ h=>
 Ajk 9 h (fun _ h=>h) (fun (r10:List (List Int)×Bool)=>Aet rfl (Aan (Ab6 (e:=(eSl (eI .i64))) (e':=(eSl (eI .i64))) (fun _=>rfl) r10.1) (Aan rfl Acq))) (hf:=(fun _=>Ab7)) fun r10 _ h=>
 mLen 11 (eSl (eI .i64)) r5.1 <|
 mFin 2 h) fun h=>
 mFin 26 h) fun _ h=>
 mFin 29 h
end drosstop_TopTranslations
end Go.Own
