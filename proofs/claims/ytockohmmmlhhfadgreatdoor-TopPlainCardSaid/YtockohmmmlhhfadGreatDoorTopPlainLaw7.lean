/- What the functions answer. No conditions. -/
import Derived.Test.YtockohmmmlhhfadGreatDoorBase5
import Derived.Test.YtockohmmmlhhfadGreatDoorOwn22
import Derived.Test.YtockohmmmlhhfadGreatDoorOwn23
set_option linter.all false
namespace Go.Own
open Go.Proofs D
set_option maxRecDepth 100000
set_option maxHeartbeats 4000000
namespace q67_
noncomputable def B:Code:=(Tryz.f131.body).getD .skip
def W:List Nat:=[0,2]
def res (r:Bool):D×List D:=(.lit (.bool r),[])
def C (x0:Int) (r:Bool):Prop:=Ret env 131 [.lit (.int .i64 x0)] (res r).1 (res r).2
theorem enter (x0:Int) (φ:Bool->Prop) (h :
 φ ((x0 != x0))):∃ r,φ r/\C x0 r:=
 mEnt (fd:=Tryz.f131) (body:=B) (V:=W) (res:=res) <|
 mRet 9 h
end q67_
namespace q49_
noncomputable def B:Code:=(Tryz.f98.body).getD .skip
def W:List Nat:=[0,1,4,5,6,11,12,13,16,19]
def res (r:Int):D×List D:=(.lit (.int .i64 r),[])
def C (x0 x1 r:Int):Prop:=Ret env 98 [.lit (.int .i64 x0),.lit (.int .i64 x1)] (res r).1 (res r).2
theorem enter (x0 x1:Int) (φ:Int->Prop) (h :
 ∃ r1:Bool,q67_.C x0 r1 /\
 ∃ r2:Bool,q67_.C x1 r2 /\
 (if r1=true then
 (if r2=true then
 φ 0
 else
 φ ((-1)))
 else
 (if r2=true then
 φ 1
 else
 (if x0<x1 then
 φ ((-1))
 else
 (if x1<x0 then
 φ 1
 else
 φ 0))))):∃ r,φ r/\C x0 x1 r:=
 mEnt (fd:=Tryz.f98) (body:=B) (V:=W) (res:=res) <|
 mCal 5 h (fun _ h=>h) fun r1 _ h=>
 mCal 4 h (fun _ h=>h) fun r2 _ h=>
 mAsk 3 h id fls (fun h=>
 mAsk 3 h id fls (fun h=>
 mRet 5 h) fun h=>
 mRet 6 h) fun h=>
 mAsk 4 h id fls (fun h=>
 mRet 5 h) fun h=>
 mAsk 6 h dT dF (fun h=>
 mRet 5 h) fun h=>
 mAsk 6 h dT dF (fun h=>
 mRet 5 h) fun h=>
 mRet 6 h
end q49_
namespace q33_
noncomputable def B:Code:=(Tryz.f69.body).getD .skip
def W:List Nat:=[0,1,4,5,6,7,8,9,10,11,12,19,28,35]
def res (r:Int):D×List D:=(.lit (.int .i64 r),[])
def C (x0 x1:List Int) (r:Int):Prop:=Ret env 69 [.sl (x0.map (eI .i64)),.sl (x1.map (eI .i64))] (res r).1 (res r).2
def L1 (x0 x1:List Int) (z0:Int) (φ:Int->Prop):Prop:=Pt env 69 W B [1,0,1,0] [(0,.sl (x0.map (eI .i64))),(1,.sl (x1.map (eI .i64))),(9,.sl (x0.map (eI .i64))),(10,.lit (.int .i64 ((x0.length:Int)))),(11,.lit (.int .i64 z0))] (Lv env 69 Tryz.f69 2 res φ)
theorem L1_step (x0 x1:List Int) (z0:Int) (φ:Int->Prop) (h :
 (if z0<(x0.length:Int) then
 ∃ a1,lget x0 z0=some a1 /\
 (if (x1.length:Int)<=z0 then
 φ 1
 else
 ∃ a3,lget x1 z0=some a3 /\
 ∃ r5:Int,q49_.C a1 a3 r5 /\
 (if r5=0 then
 q33_.L1 x0 x1 ((IntKind.wrap .i64 (z0+1))) φ
 else
 φ r5))
 else
 (if (x0.length:Int)<(x1.length:Int) then
 φ ((-1))
 else
 φ 0))):L1 x0 x1 z0 φ:=
 mIn <|
 mAsk 2 h dT dF (fun h=>
 mIx 5 (eI .i64) h fun a1 h2 h=>
 mLen 7 (eI .i64) x1 <|
 mAsk 0 h dT dF (fun h=>
 mRet 5 h) fun h=>
 mIx 6 (eI .i64) h fun a3 h4 h=>
 mCal 6 h (fun _ h=>h) fun r5 _ h=>
 Ael 4 h Ae1 Ae0 (fun h=>
 mRet 6 h) fun h=>
 mFin 7 h) fun h=>
 mLen 5 (eI .i64) x0 <|
 mLen 1 (eI .i64) x1 <|
 mAsk 0 h dT dF (fun h=>
 mRet 5 h) fun h=>
 mRet 6 h
theorem enter (x0 x1:List Int) (φ:Int->Prop) (h :
 q33_.L1 x0 x1 0 φ):∃ r,φ r/\C x0 x1 r:=
 mEnt (fd:=Tryz.f69) (body:=B) (V:=W) (res:=res) <|
 mLen 5 (eI .i64) x0 <|
 mFin 2 h
end q33_
namespace q3_
noncomputable def B:Code:=(Tryz.f123.body).getD .skip
def W:List Nat:=[0,1,2,3,8,9,14,34,1000000]
def res (r:List (List Int)):D×List D:=(.tup [],[.own (r.map (eSl (eI .i64)))])
def C (x1 x2:Int) (k0_0 r:List (List Int)):Prop:=Ret env 123 [.own (k0_0.map (eSl (eI .i64))),.lit (.int .i64 x1),.lit (.int .i64 x2),.fn 69 []] (res r).1 (res r).2
def L1 (x1 x2 z0:Int) (k0_0:List (List Int)) (φ:List (List Int)->Prop):Prop:=Pt env 123 W B [1,0] [(0,.alias 1000000 []),(1,.lit (.int .i64 x1)),(2,.lit (.int .i64 x2)),(3,.fn 69 []),(8,.lit (.int .i64 z0)),(1000000,.own (k0_0.map (eSl (eI .i64))))] (Lv env 123 Tryz.f123 4 res φ)
def L2 (x1 x2:Int) (z0 z1:Int) (k0_0:List (List Int)) (φ:List (List Int)->Prop):Prop:=Pt env 123 W B [1,0,0,1,0,0,1,0] [(0,.alias 1000000 []),(1,.lit (.int .i64 x1)),(2,.lit (.int .i64 x2)),(3,.fn 69 []),(8,.lit (.int .i64 z0)),(9,.lit (.int .i64 z1)),(1000000,.own (k0_0.map (eSl (eI .i64))))] (Lv env 123 Tryz.f123 4 res φ)
def L3 (x1 x2 z0:Int) (k0_0:List (List Int)) (φ:List (List Int)->Prop):Prop:=Pt env 123 W B [1,0,0,1,1] [(0,.alias 1000000 []),(1,.lit (.int .i64 x1)),(2,.lit (.int .i64 x2)),(3,.fn 69 []),(8,.lit (.int .i64 z0)),(1000000,.own (k0_0.map (eSl (eI .i64))))] (Lv env 123 Tryz.f123 4 res φ)
theorem L1_step (x1 x2 z0:Int) (k0_0:List (List Int)) (φ:List (List Int)->Prop) (h :
 (if z0<x2 then
 q3_.L2 x1 x2 z0 z0 k0_0 φ
 else
 φ k0_0)):L1 x1 x2 z0 k0_0 φ:=
 mIn <|
 mAsk 4 h dT dF (fun h=>
 mFin 7 h) fun h=>
 mRet 2 h
theorem L2_step (x1 x2:Int) (z0 z1:Int) (k0_0:List (List Int)) (φ:List (List Int)->Prop) (h :
 (if x1<z1 then
 ∃ a1,lget k0_0 z1=some a1 /\
 ∃ a3,lget k0_0 ((IntKind.wrap .i64 (z1-1)))=some a3 /\
 ∃ r5:Int,q33_.C a1 a3 r5 /\
 (if r5<0 then
 ∃ a6,lget ((lset k0_0 z1 a3)) ((IntKind.wrap .i64 (z1-1)))=some a6 /\
 q3_.L2 x1 x2 z0 ((IntKind.wrap .i64 (z1-1))) ((lset (lset k0_0 z1 a3) (IntKind.wrap .i64 (z1-1)) a1)) φ
 else
 q3_.L3 x1 x2 z0 k0_0 φ)
 else
 q3_.L3 x1 x2 z0 k0_0 φ)):L2 x1 x2 z0 z1 k0_0 φ:=
 mIn <|
 mAsk 4 h dT dF (fun h=>
 mIy 4 (eSl (eI .i64)) h fun a1 h2 h=>
 mLd 0 (eSl (eI .i64)) h2 <|
 mIy 3 (eSl (eI .i64)) h fun a3 h4 h=>
 mLd 0 (eSl (eI .i64)) h4 <|
 mCal 0 h (fun _ h=>h) fun r5 _ h=>
 mAsk 0 h dT dF (fun h=>
 mIyf 13 (eSl (eI .i64)) h4 <|
 mLd 0 (eSl (eI .i64)) h4 <|
 mIyf 2 (eSl (eI .i64)) h2 <|
 mLd 0 (eSl (eI .i64)) h2 <|
 mIyf 0 (eSl (eI .i64)) h2 <|
 Ae3 0 (eSl (eI .i64)) a3 h2 <|
 mIy 0 (eSl (eI .i64)) h fun a6 h7 h=>
 mSto 0 (eSl (eI .i64)) a1 h7 <|
 mFin 6 h) fun h=>
 mFin 4 h) fun h=>
 mFin 17 h
theorem L3_step (x1 x2 z0:Int) (k0_0:List (List Int)) (φ:List (List Int)->Prop) (h :
 q3_.L1 x1 x2 ((IntKind.wrap .i64 (z0+1))) k0_0 φ):L3 x1 x2 z0 k0_0 φ:=
 mIn <|
 mFin 5 h
theorem enter (x1 x2:Int) (k0_0:List (List Int)) (φ:List (List Int)->Prop) (h :
 q3_.L1 x1 x2 ((IntKind.wrap .i64 (x1+1))) k0_0 φ):∃ r,φ r/\C x1 x2 k0_0 r:=
 mEnt (fd:=Tryz.f123) (body:=B) (V:=W) (res:=res) <|
 mFin 5 h
end q3_
namespace q11_
noncomputable def B:Code:=(Tryz.f144.body).getD .skip
def W:List Nat:=[0,1,2,3,4,10,11,18,40,58,1000000]
def res (r:List (List Int)):D×List D:=(.tup [],[.own (r.map (eSl (eI .i64)))])
def C (x1 x2 x3:Int) (k0_0 r:List (List Int)):Prop:=Ret env 144 [.own (k0_0.map (eSl (eI .i64))),.lit (.int .i64 x1),.lit (.int .i64 x2),.lit (.int .i64 x3),.fn 69 []] (res r).1 (res r).2
def L1 (x2 x3 x1:Int) (k0_0:List (List Int)) (φ:List (List Int)->Prop):Prop:=Pt env 144 W B [1,0] [(0,.alias 1000000 []),(2,.lit (.int .i64 x2)),(3,.lit (.int .i64 x3)),(4,.fn 69 []),(10,.lit (.int .i64 x1)),(1000000,.own (k0_0.map (eSl (eI .i64))))] (Lv env 144 Tryz.f144 5 res φ)
def L2 (x2 x3:Int) (x1 z0:Int) (k0_0:List (List Int)) (φ:List (List Int)->Prop):Prop:=Pt env 144 W B [1,0,0,0,1,1,1,0,0] [(0,.alias 1000000 []),(2,.lit (.int .i64 x2)),(3,.lit (.int .i64 x3)),(4,.fn 69 []),(10,.lit (.int .i64 x1)),(11,.lit (.int .i64 z0)),(1000000,.own (k0_0.map (eSl (eI .i64))))] (Lv env 144 Tryz.f144 5 res φ)
theorem L1_step (x2 x3 x1:Int) (k0_0:List (List Int)) (φ:List (List Int)->Prop) (h :
 (if x2<=(IntKind.wrap .i64 ((IntKind.wrap .i64 (2*x1))+1)) then
 φ k0_0
 else
 (if (IntKind.wrap .i64 ((IntKind.wrap .i64 ((IntKind.wrap .i64 (2*x1))+1))+1))<x2 then
 ∃ a1,lget k0_0 ((IntKind.wrap .i64 (x3+(IntKind.wrap .i64 ((IntKind.wrap .i64 (2*x1))+1)))))=some a1 /\
 ∃ a3,lget k0_0 ((IntKind.wrap .i64 ((IntKind.wrap .i64 (x3+(IntKind.wrap .i64 ((IntKind.wrap .i64 (2*x1))+1))))+1)))=some a3 /\
 ∃ r5:Int,q33_.C a1 a3 r5 /\
 (if r5<0 then
 q11_.L2 x2 x3 x1 ((IntKind.wrap .i64 ((IntKind.wrap .i64 ((IntKind.wrap .i64 (2*x1))+1))+1))) k0_0 φ
 else
 q11_.L2 x2 x3 x1 ((IntKind.wrap .i64 ((IntKind.wrap .i64 (2*x1))+1))) k0_0 φ)
 else
 q11_.L2 x2 x3 x1 ((IntKind.wrap .i64 ((IntKind.wrap .i64 (2*x1))+1))) k0_0 φ))):L1 x2 x3 x1 k0_0 φ:=
 mIn <|
 mAsk 10 h dT dF (fun h=>
 mRet 2 h) fun h=>
 mAsk 7 h dT dF (fun h=>
 mIy 6 (eSl (eI .i64)) h fun a1 h2 h=>
 mLd 0 (eSl (eI .i64)) h2 <|
 mIy 5 (eSl (eI .i64)) h fun a3 h4 h=>
 mLd 0 (eSl (eI .i64)) h4 <|
 mCal 0 h (fun _ h=>h) fun r5 _ h=>
 mAsk 0 h dT dF (fun h=>
 mFin 8 h) fun h=>
 mFin 4 h) fun h=>
 mFin 21 h
theorem L2_step (x2 x3:Int) (x1 z0:Int) (k0_0:List (List Int)) (φ:List (List Int)->Prop) (h :
 ∃ a6,lget k0_0 ((IntKind.wrap .i64 (x3+x1)))=some a6 /\
 ∃ a8,lget k0_0 ((IntKind.wrap .i64 (x3+z0)))=some a8 /\
 ∃ r10:Int,q33_.C a6 a8 r10 /\
 (if r10<0 then
 ∃ a11,lget ((lset k0_0 (IntKind.wrap .i64 (x3+x1)) a8)) ((IntKind.wrap .i64 (x3+z0)))=some a11 /\
 q11_.L1 x2 x3 z0 ((lset (lset k0_0 (IntKind.wrap .i64 (x3+x1)) a8) (IntKind.wrap .i64 (x3+z0)) a6)) φ
 else
 φ k0_0)):L2 x2 x3 x1 z0 k0_0 φ:=
 mIn <|
 mIy 6 (eSl (eI .i64)) h fun a6 h7 h=>
 mLd 0 (eSl (eI .i64)) h7 <|
 mIy 4 (eSl (eI .i64)) h fun a8 h9 h=>
 mLd 0 (eSl (eI .i64)) h9 <|
 mCal 0 h (fun _ h=>h) fun r10 _ h=>
 mAsk 0 h dT dF (fun h=>
 mIyf 17 (eSl (eI .i64)) h9 <|
 mLd 0 (eSl (eI .i64)) h9 <|
 mIyf 4 (eSl (eI .i64)) h7 <|
 mLd 0 (eSl (eI .i64)) h7 <|
 mIyf 0 (eSl (eI .i64)) h7 <|
 Ae3 0 (eSl (eI .i64)) a8 h7 <|
 mIy 0 (eSl (eI .i64)) h fun a11 h12 h=>
 mSto 0 (eSl (eI .i64)) a6 h12 <|
 mFin 5 h) fun h=>
 mRet 3 h
theorem enter (x1 x2 x3:Int) (k0_0:List (List Int)) (φ:List (List Int)->Prop) (h :
 q11_.L1 x2 x3 x1 k0_0 φ):∃ r,φ r/\C x1 x2 x3 k0_0 r:=
 mEnt (fd:=Tryz.f144) (body:=B) (V:=W) (res:=res) <|
 mFin 4 h
end q11_
namespace q12_
noncomputable def B:Code:=(Tryz.f124.body).getD .skip
def W:List Nat:=[0,1,2,3,8,9,10,11,12,21,33,1000000]
def res (r:List (List Int)):D×List D:=(.tup [],[.own (r.map (eSl (eI .i64)))])
def C (x1 x2:Int) (k0_0 r:List (List Int)):Prop:=Ret env 124 [.own (k0_0.map (eSl (eI .i64))),.lit (.int .i64 x1),.lit (.int .i64 x2),.fn 69 []] (res r).1 (res r).2
def L1 (x1 z0 z1:Int) (k0_0:List (List Int)) (φ:List (List Int)->Prop):Prop:=Pt env 124 W B [1,1,1,0,1,0] [(0,.alias 1000000 []),(3,.fn 69 []),(8,.lit (.int .i64 x1)),(9,.lit (.int .i64 0)),(10,.lit (.int .i64 z0)),(11,.lit (.int .i64 z1)),(1000000,.own (k0_0.map (eSl (eI .i64))))] (Lv env 124 Tryz.f124 4 res φ)
def L2 (x1 z0:Int) (k0_0:List (List Int)) (φ:List (List Int)->Prop):Prop:=Pt env 124 W B [1,1,1,1,1,0] [(0,.alias 1000000 []),(3,.fn 69 []),(8,.lit (.int .i64 x1)),(9,.lit (.int .i64 0)),(12,.lit (.int .i64 z0)),(1000000,.own (k0_0.map (eSl (eI .i64))))] (Lv env 124 Tryz.f124 4 res φ)
theorem L1_step (x1 z0 z1:Int) (k0_0:List (List Int)) (φ:List (List Int)->Prop) (h :
 (if 0<=z1 then
 ∃ r1:List (List Int),q11_.C z1 z0 x1 k0_0 r1 /\
 q12_.L1 x1 z0 ((IntKind.wrap .i64 (z1-1))) r1 φ
 else
 q12_.L2 x1 ((IntKind.wrap .i64 (z0-1))) k0_0 φ)):L1 x1 z0 z1 k0_0 φ:=
 mIn <|
 mAsk 3 h dT dF (fun h=>
 mCal 9 h (fun _ h=>h) (hf:=(fun _=>Ab6)) fun r1 _ h=>
 mFin 6 h) fun h=>
 mFin 8 h
theorem L2_step (x1 z0:Int) (k0_0:List (List Int)) (φ:List (List Int)->Prop) (h :
 (if 0<=z0 then
 ∃ a2,lget k0_0 ((IntKind.wrap .i64 (x1+z0)))=some a2 /\
 ∃ a4,lget k0_0 x1=some a4 /\
 ∃ a6,lget ((lset k0_0 x1 a2)) ((IntKind.wrap .i64 (x1+z0)))=some a6 /\
 ∃ r8:List (List Int),q11_.C 0 z0 x1 ((lset (lset k0_0 x1 a2) (IntKind.wrap .i64 (x1+z0)) a4)) r8 /\
 q12_.L2 x1 ((IntKind.wrap .i64 (z0-1))) r8 φ
 else
 φ k0_0)):L2 x1 z0 k0_0 φ:=
 mIn <|
 mAsk 3 h dT dF (fun h=>
 mIy 14 (eSl (eI .i64)) h fun a2 h3 h=>
 mLd 0 (eSl (eI .i64)) h3 <|
 mIy 2 (eSl (eI .i64)) h fun a4 h5 h=>
 mLd 0 (eSl (eI .i64)) h5 <|
 mIyf 0 (eSl (eI .i64)) h5 <|
 Ae3 0 (eSl (eI .i64)) a2 h5 <|
 mIy 0 (eSl (eI .i64)) h fun a6 h7 h=>
 mSto 0 (eSl (eI .i64)) a4 h7 <|
 mCal 7 h (fun _ h=>h) (hf:=(fun _=>Ab6)) fun r8 _ h=>
 mFin 6 h) fun h=>
 mRet 2 h
theorem enter (x1 x2:Int) (k0_0:List (List Int)) (φ:List (List Int)->Prop) (h :
 q12_.L1 x1 ((IntKind.wrap .i64 (x2-x1))) ((IntKind.wrap .i64 (Int.tdiv (IntKind.wrap .i64 ((IntKind.wrap .i64 (x2-x1))-1)) 2))) k0_0 φ):∃ r,φ r/\C x1 x2 k0_0 r:=
 mEnt (fd:=Tryz.f124) (body:=B) (V:=W) (res:=res) <|
 mFin 19 h
end q12_
namespace q0_
noncomputable def B:Code:=(Tryz.f128.body).getD .skip
def W:List Nat:=[0,1,2,3,8,9,10,11,12,16,36,41,45,65,69,84,104,109,124,1000000]
def res (r:Bool×List (List Int)):D×List D:=(.lit (.bool r.1),[.own (r.2.map (eSl (eI .i64)))])
def C (x1 x2:Int) (k0_0:List (List Int)) (r:Bool×List (List Int)):Prop:=Ret env 128 [.own (k0_0.map (eSl (eI .i64))),.lit (.int .i64 x1),.lit (.int .i64 x2),.fn 69 []] (res r).1 (res r).2
def L1 (x1 x2:Int) (z0 z1:Int) (k0_0:List (List Int)) (φ:Bool×List (List Int)->Prop):Prop:=Pt env 128 W B [1,1,0,1,0] [(0,.alias 1000000 []),(1,.lit (.int .i64 x1)),(2,.lit (.int .i64 x2)),(3,.fn 69 []),(9,.lit (.int .i64 z0)),(10,.lit (.int .i64 z1)),(1000000,.own (k0_0.map (eSl (eI .i64))))] (Lv env 128 Tryz.f128 4 res φ)
def L2 (x1 x2:Int) (z0 z1:Int) (k0_0:List (List Int)) (φ:Bool×List (List Int)->Prop):Prop:=Pt env 128 W B [1,1,0,1,0,0,1,0,0,0,0] [(0,.alias 1000000 []),(1,.lit (.int .i64 x1)),(2,.lit (.int .i64 x2)),(3,.fn 69 []),(9,.lit (.int .i64 z0)),(10,.lit (.int .i64 z1)),(1000000,.own (k0_0.map (eSl (eI .i64))))] (Lv env 128 Tryz.f128 4 res φ)
def L5 (x1 x2:Int) (z0 z1:Int) (k0_0:List (List Int)) (φ:Bool×List (List Int)->Prop):Prop:=Pt env 128 W B [1,1,0,1,0,0,1,0,0,1,0,0] [(0,.alias 1000000 []),(1,.lit (.int .i64 x1)),(2,.lit (.int .i64 x2)),(3,.fn 69 []),(9,.lit (.int .i64 z0)),(10,.lit (.int .i64 z1)),(1000000,.own (k0_0.map (eSl (eI .i64))))] (Lv env 128 Tryz.f128 4 res φ)
def L3 (x1 x2:Int) (z0 z1 z2:Int) (z3:List (List Int)) (φ:Bool×List (List Int)->Prop):Prop:=Pt env 128 W B [1,1,0,1,0,0,1,0,0,1,1,1,1,0,1,0,1,0] [(0,.alias 1000000 []),(1,.lit (.int .i64 x1)),(2,.lit (.int .i64 x2)),(3,.fn 69 []),(9,.lit (.int .i64 z0)),(10,.lit (.int .i64 z1)),(11,.lit (.int .i64 z2)),(1000000,.own (z3.map (eSl (eI .i64))))] (Lv env 128 Tryz.f128 4 res φ)
def L6 (x1 x2:Int) (z0 z1:Int) (z2:List (List Int)) (φ:Bool×List (List Int)->Prop):Prop:=Pt env 128 W B [1,1,0,1,0,0,1,0,0,1,1,1,1,1,0] [(0,.alias 1000000 []),(1,.lit (.int .i64 x1)),(2,.lit (.int .i64 x2)),(3,.fn 69 []),(9,.lit (.int .i64 z0)),(10,.lit (.int .i64 z1)),(1000000,.own (z2.map (eSl (eI .i64))))] (Lv env 128 Tryz.f128 4 res φ)
def L4 (x1 x2:Int) (z0 z1 z2:Int) (z3:List (List Int)) (φ:Bool×List (List Int)->Prop):Prop:=Pt env 128 W B [1,1,0,1,0,0,1,0,0,1,1,1,1,1,1,0,1,0] [(0,.alias 1000000 []),(1,.lit (.int .i64 x1)),(2,.lit (.int .i64 x2)),(3,.fn 69 []),(9,.lit (.int .i64 z0)),(10,.lit (.int .i64 z1)),(12,.lit (.int .i64 z2)),(1000000,.own (z3.map (eSl (eI .i64))))] (Lv env 128 Tryz.f128 4 res φ)
def L7 (x1 x2:Int) (z0 z1:Int) (z2:List (List Int)) (φ:Bool×List (List Int)->Prop):Prop:=Pt env 128 W B [1,1,0,1,0,0,1,1] [(0,.alias 1000000 []),(1,.lit (.int .i64 x1)),(2,.lit (.int .i64 x2)),(3,.fn 69 []),(9,.lit (.int .i64 z0)),(10,.lit (.int .i64 z1)),(1000000,.own (z2.map (eSl (eI .i64))))] (Lv env 128 Tryz.f128 4 res φ)
theorem L1_step (x1 x2:Int) (z0 z1:Int) (k0_0:List (List Int)) (φ:Bool×List (List Int)->Prop) (h :
 (if z1<5 then
 q0_.L2 x1 x2 z0 z1 k0_0 φ
 else
 φ ((false,k0_0)))):L1 x1 x2 z0 z1 k0_0 φ:=
 mIn <|
 mAsk 3 h dT dF (fun h=>
 mFin 3 h) fun h=>
 mRet 6 h
theorem L2_step (x1 x2:Int) (z0 z1:Int) (k0_0:List (List Int)) (φ:Bool×List (List Int)->Prop) (h :
 (if z0<x2 then
 ∃ a1,lget k0_0 z0=some a1 /\
 ∃ a3,lget k0_0 ((IntKind.wrap .i64 (z0-1)))=some a3 /\
 ∃ r5:Int,q33_.C a1 a3 r5 /\
 (if r5<0 then
 q0_.L5 x1 x2 z0 z1 k0_0 φ
 else
 q0_.L2 x1 x2 ((IntKind.wrap .i64 (z0+1))) z1 k0_0 φ)
 else
 q0_.L5 x1 x2 z0 z1 k0_0 φ)):L2 x1 x2 z0 z1 k0_0 φ:=
 mIn <|
 mAsk 4 h dT dF (fun h=>
 mIy 4 (eSl (eI .i64)) h fun a1 h2 h=>
 mLd 0 (eSl (eI .i64)) h2 <|
 mIy 3 (eSl (eI .i64)) h fun a3 h4 h=>
 mLd 0 (eSl (eI .i64)) h4 <|
 mCal 0 h (fun _ h=>h) fun r5 _ h=>
 mAsk 0 h dT dF (fun h=>
 mFin 5 h) fun h=>
 mFin 10 h) fun h=>
 mFin 18 h
theorem L5_step (x1 x2:Int) (z0 z1:Int) (k0_0:List (List Int)) (φ:Bool×List (List Int)->Prop) (h :
 (if z0=x2 then
 φ ((true,k0_0))
 else
 (if (IntKind.wrap .i64 (x2-x1))<50 then
 φ ((false,k0_0))
 else
 ∃ a6,lget k0_0 ((IntKind.wrap .i64 (z0-1)))=some a6 /\
 ∃ a8,lget k0_0 z0=some a8 /\
 ∃ a10,lget ((lset k0_0 z0 a6)) ((IntKind.wrap .i64 (z0-1)))=some a10 /\
 (if 2<=(IntKind.wrap .i64 (z0-x1)) then
 q0_.L3 x1 x2 z0 z1 ((IntKind.wrap .i64 (z0-1))) ((lset (lset k0_0 z0 a6) (IntKind.wrap .i64 (z0-1)) a8)) φ
 else
 q0_.L6 x1 x2 z0 z1 ((lset (lset k0_0 z0 a6) (IntKind.wrap .i64 (z0-1)) a8)) φ)))):L5 x1 x2 z0 z1 k0_0 φ:=
 mIn <|
 mAsk 3 h Aaw Aav (fun h=>
 mRet 5 h) fun h=>
 mAsk 7 h dT dF (fun h=>
 mRet 5 h) fun h=>
 mIy 12 (eSl (eI .i64)) h fun a6 h7 h=>
 mLd 0 (eSl (eI .i64)) h7 <|
 mIy 2 (eSl (eI .i64)) h fun a8 h9 h=>
 mLd 0 (eSl (eI .i64)) h9 <|
 mIyf 0 (eSl (eI .i64)) h9 <|
 Ae3 0 (eSl (eI .i64)) a6 h9 <|
 mIy 0 (eSl (eI .i64)) h fun a10 h11 h=>
 mSto 0 (eSl (eI .i64)) a8 h11 <|
 mAsk 5 h dT dF (fun h=>
 mFin 7 h) fun h=>
 mFin 3 h
theorem L3_step (x1 x2:Int) (z0 z1 z2:Int) (z3:List (List Int)) (φ:Bool×List (List Int)->Prop) (h :
 (if 1<=z2 then
 ∃ a12,lget z3 z2=some a12 /\
 ∃ a14,lget z3 ((IntKind.wrap .i64 (z2-1)))=some a14 /\
 ∃ r16:Int,q33_.C a12 a14 r16 /\
 (if r16<0 then
 ∃ a17,lget ((lset z3 z2 a14)) ((IntKind.wrap .i64 (z2-1)))=some a17 /\
 q0_.L3 x1 x2 z0 z1 ((IntKind.wrap .i64 (z2-1))) ((lset (lset z3 z2 a14) (IntKind.wrap .i64 (z2-1)) a12)) φ
 else
 q0_.L6 x1 x2 z0 z1 z3 φ)
 else
 q0_.L6 x1 x2 z0 z1 z3 φ)):L3 x1 x2 z0 z1 z2 z3 φ:=
 mIn <|
 mAsk 3 h dT dF (fun h=>
 mIy 7 (eSl (eI .i64)) h fun a12 h13 h=>
 mLd 0 (eSl (eI .i64)) h13 <|
 mIy 3 (eSl (eI .i64)) h fun a14 h15 h=>
 mLd 0 (eSl (eI .i64)) h15 <|
 mCal 0 h (fun _ h=>h) fun r16 _ h=>
 mAsk 0 h dT dF (fun h=>
 mIyf 13 (eSl (eI .i64)) h15 <|
 mLd 0 (eSl (eI .i64)) h15 <|
 mIyf 2 (eSl (eI .i64)) h13 <|
 mLd 0 (eSl (eI .i64)) h13 <|
 mIyf 0 (eSl (eI .i64)) h13 <|
 Ae3 0 (eSl (eI .i64)) a14 h13 <|
 mIy 0 (eSl (eI .i64)) h fun a17 h18 h=>
 mSto 0 (eSl (eI .i64)) a12 h18 <|
 mFin 6 h) fun h=>
 mFin 4 h) fun h=>
 mFin 3 h
theorem L6_step (x1 x2:Int) (z0 z1:Int) (z2:List (List Int)) (φ:Bool×List (List Int)->Prop) (h :
 (if 2<=(IntKind.wrap .i64 (x2-z0)) then
 q0_.L4 x1 x2 z0 z1 ((IntKind.wrap .i64 (z0+1))) z2 φ
 else
 q0_.L7 x1 x2 z0 z1 z2 φ)):L6 x1 x2 z0 z1 z2 φ:=
 mIn <|
 mAsk 4 h dT dF (fun h=>
 mFin 7 h) fun h=>
 mFin 3 h
theorem L4_step (x1 x2:Int) (z0 z1 z2:Int) (z3:List (List Int)) (φ:Bool×List (List Int)->Prop) (h :
 (if z2<x2 then
 ∃ a19,lget z3 z2=some a19 /\
 ∃ a21,lget z3 ((IntKind.wrap .i64 (z2-1)))=some a21 /\
 ∃ r23:Int,q33_.C a19 a21 r23 /\
 (if r23<0 then
 ∃ a24,lget ((lset z3 z2 a21)) ((IntKind.wrap .i64 (z2-1)))=some a24 /\
 q0_.L4 x1 x2 z0 z1 ((IntKind.wrap .i64 (z2+1))) ((lset (lset z3 z2 a21) (IntKind.wrap .i64 (z2-1)) a19)) φ
 else
 q0_.L7 x1 x2 z0 z1 z3 φ)
 else
 q0_.L7 x1 x2 z0 z1 z3 φ)):L4 x1 x2 z0 z1 z2 z3 φ:=
 mIn <|
 mAsk 4 h dT dF (fun h=>
 mIy 7 (eSl (eI .i64)) h fun a19 h20 h=>
 mLd 0 (eSl (eI .i64)) h20 <|
 mIy 3 (eSl (eI .i64)) h fun a21 h22 h=>
 mLd 0 (eSl (eI .i64)) h22 <|
 mCal 0 h (fun _ h=>h) fun r23 _ h=>
 mAsk 0 h dT dF (fun h=>
 mIyf 13 (eSl (eI .i64)) h22 <|
 mLd 0 (eSl (eI .i64)) h22 <|
 mIyf 2 (eSl (eI .i64)) h20 <|
 mLd 0 (eSl (eI .i64)) h20 <|
 mIyf 0 (eSl (eI .i64)) h20 <|
 Ae3 0 (eSl (eI .i64)) a21 h20 <|
 mIy 0 (eSl (eI .i64)) h fun a24 h25 h=>
 mSto 0 (eSl (eI .i64)) a19 h25 <|
 mFin 6 h) fun h=>
 mFin 4 h) fun h=>
 mFin 3 h
theorem L7_step (x1 x2:Int) (z0 z1:Int) (z2:List (List Int)) (φ:Bool×List (List Int)->Prop) (h :
 q0_.L1 x1 x2 z0 ((IntKind.wrap .i64 (z1+1))) z2 φ):L7 x1 x2 z0 z1 z2 φ:=
 mIn <|
 mFin 5 h
theorem enter (x1 x2:Int) (k0_0:List (List Int)) (φ:Bool×List (List Int)->Prop) (h :
 q0_.L1 x1 x2 ((IntKind.wrap .i64 (x1+1))) 0 k0_0 φ):∃ r,φ r/\C x1 x2 k0_0 r:=
 mEnt (fd:=Tryz.f128) (body:=B) (V:=W) (res:=res) <|
 mFin 11 h
end q0_
namespace q8_
noncomputable def B:Code:=(Tryz.f130.body).getD .skip
def W:List Nat:=[0,1,2,3,4,10,11,12,13,47,66,71,120,139,144,1000000]
def res (r:Int×Bool×List (List Int)):D×List D:=(.tup [.lit (.int .i64 r.1),.lit (.bool r.2.1)],[.own (r.2.2.map (eSl (eI .i64)))])
def C (x1 x2 x3:Int) (k0_0:List (List Int)) (r:Int×Bool×List (List Int)):Prop:=Ret env 130 [.own (k0_0.map (eSl (eI .i64))),.lit (.int .i64 x1),.lit (.int .i64 x2),.lit (.int .i64 x3),.fn 69 []] (res r).1 (res r).2
def L1 (x1 z0 z1:Int) (z2:List (List Int)) (φ:Int×Bool×List (List Int)->Prop):Prop:=Pt env 130 W B [1,1,1,0,0] [(0,.alias 1000000 []),(1,.lit (.int .i64 x1)),(4,.fn 69 []),(12,.lit (.int .i64 z0)),(13,.lit (.int .i64 z1)),(1000000,.own (z2.map (eSl (eI .i64))))] (Lv env 130 Tryz.f130 5 res φ)
def L2 (x1 z0 z1:Int) (z2:List (List Int)) (φ:Int×Bool×List (List Int)->Prop):Prop:=Pt env 130 W B [1,1,1,1,0,0] [(0,.alias 1000000 []),(1,.lit (.int .i64 x1)),(4,.fn 69 []),(12,.lit (.int .i64 z0)),(13,.lit (.int .i64 z1)),(1000000,.own (z2.map (eSl (eI .i64))))] (Lv env 130 Tryz.f130 5 res φ)
def L4 (x1 z0 z1:Int) (z2:List (List Int)) (φ:Int×Bool×List (List Int)->Prop):Prop:=Pt env 130 W B [1,1,1,1,1,0,0] [(0,.alias 1000000 []),(1,.lit (.int .i64 x1)),(4,.fn 69 []),(12,.lit (.int .i64 z0)),(13,.lit (.int .i64 z1)),(1000000,.own (z2.map (eSl (eI .i64))))] (Lv env 130 Tryz.f130 5 res φ)
def L3 (x1 z0 z1:Int) (z2:List (List Int)) (φ:Int×Bool×List (List Int)->Prop):Prop:=Pt env 130 W B [1,1,1,1,1,1,1,1,1,0,0] [(0,.alias 1000000 []),(1,.lit (.int .i64 x1)),(4,.fn 69 []),(12,.lit (.int .i64 z0)),(13,.lit (.int .i64 z1)),(1000000,.own (z2.map (eSl (eI .i64))))] (Lv env 130 Tryz.f130 5 res φ)
def L5 (x1 z0 z1:Int) (z2:List (List Int)) (φ:Int×Bool×List (List Int)->Prop):Prop:=Pt env 130 W B [1,1,1,1,1,1,1,1,1,0,0,0,0,0,0] [(0,.alias 1000000 []),(1,.lit (.int .i64 x1)),(4,.fn 69 []),(12,.lit (.int .i64 z0)),(13,.lit (.int .i64 z1)),(1000000,.own (z2.map (eSl (eI .i64))))] (Lv env 130 Tryz.f130 5 res φ)
def L6 (x1 z0 z1:Int) (z2:List (List Int)) (φ:Int×Bool×List (List Int)->Prop):Prop:=Pt env 130 W B [1,1,1,1,1,1,1,1,1,0,0,0,0,1,0,0] [(0,.alias 1000000 []),(1,.lit (.int .i64 x1)),(4,.fn 69 []),(12,.lit (.int .i64 z0)),(13,.lit (.int .i64 z1)),(1000000,.own (z2.map (eSl (eI .i64))))] (Lv env 130 Tryz.f130 5 res φ)
def L7 (x1 z0 z1:Int) (z2:List (List Int)) (φ:Int×Bool×List (List Int)->Prop):Prop:=Pt env 130 W B [1,1,1,1,1,1,1,1,1,0,0,0,0,1,1,0,0] [(0,.alias 1000000 []),(1,.lit (.int .i64 x1)),(4,.fn 69 []),(12,.lit (.int .i64 z0)),(13,.lit (.int .i64 z1)),(1000000,.own (z2.map (eSl (eI .i64))))] (Lv env 130 Tryz.f130 5 res φ)
theorem L1_step (x1 z0 z1:Int) (z2:List (List Int)) (φ:Int×Bool×List (List Int)->Prop) (h :
 (if z0<=z1 then
 ∃ a7,lget z2 z0=some a7 /\
 ∃ a9,lget z2 x1=some a9 /\
 ∃ r11:Int,q33_.C a7 a9 r11 /\
 (if r11<0 then
 q8_.L1 x1 ((IntKind.wrap .i64 (z0+1))) z1 z2 φ
 else
 q8_.L2 x1 z0 z1 z2 φ)
 else
 q8_.L2 x1 z0 z1 z2 φ)):L1 x1 z0 z1 z2 φ:=
 mIn <|
 mAsk 4 h dT dF (fun h=>
 mIy 4 (eSl (eI .i64)) h fun a7 h8 h=>
 mLd 0 (eSl (eI .i64)) h8 <|
 mIy 2 (eSl (eI .i64)) h fun a9 h10 h=>
 mLd 0 (eSl (eI .i64)) h10 <|
 mCal 0 h (fun _ h=>h) fun r11 _ h=>
 mAsk 0 h dT dF (fun h=>
 mFin 9 h) fun h=>
 mFin 4 h) fun h=>
 mFin 16 h
theorem L2_step (x1 z0 z1:Int) (z2:List (List Int)) (φ:Int×Bool×List (List Int)->Prop) (h :
 (if z0<=z1 then
 ∃ a12,lget z2 z1=some a12 /\
 ∃ a14,lget z2 x1=some a14 /\
 ∃ r16:Int,q33_.C a12 a14 r16 /\
 (if r16<0 then
 q8_.L4 x1 z0 z1 z2 φ
 else
 q8_.L2 x1 z0 ((IntKind.wrap .i64 (z1-1))) z2 φ)
 else
 q8_.L4 x1 z0 z1 z2 φ)):L2 x1 z0 z1 z2 φ:=
 mIn <|
 mAsk 4 h dT dF (fun h=>
 mIy 4 (eSl (eI .i64)) h fun a12 h13 h=>
 mLd 0 (eSl (eI .i64)) h13 <|
 mIy 2 (eSl (eI .i64)) h fun a14 h15 h=>
 mLd 0 (eSl (eI .i64)) h15 <|
 mCal 0 h (fun _ h=>h) fun r16 _ h=>
 mAsk 0 h dT dF (fun h=>
 mFin 5 h) fun h=>
 mFin 10 h) fun h=>
 mFin 17 h
theorem L4_step (x1 z0 z1:Int) (z2:List (List Int)) (φ:Int×Bool×List (List Int)->Prop) (h :
 (if z1<z0 then
 ∃ a17,lget z2 x1=some a17 /\
 ∃ a19,lget z2 z1=some a19 /\
 ∃ a21,lget ((lset z2 z1 a17)) x1=some a21 /\
 φ ((z1,true,(lset (lset z2 z1 a17) x1 a19)))
 else
 ∃ a23,lget z2 z1=some a23 /\
 ∃ a25,lget z2 z0=some a25 /\
 ∃ a27,lget ((lset z2 z0 a23)) z1=some a27 /\
 q8_.L3 x1 ((IntKind.wrap .i64 (z0+1))) ((IntKind.wrap .i64 (z1-1))) ((lset (lset z2 z0 a23) z1 a25)) φ)):L4 x1 z0 z1 z2 φ:=
 mIn <|
 mAsk 3 h dT dF (fun h=>
 mIy 9 (eSl (eI .i64)) h fun a17 h18 h=>
 mLd 0 (eSl (eI .i64)) h18 <|
 mIy 2 (eSl (eI .i64)) h fun a19 h20 h=>
 mLd 0 (eSl (eI .i64)) h20 <|
 mIyf 0 (eSl (eI .i64)) h20 <|
 Ae3 0 (eSl (eI .i64)) a17 h20 <|
 mIy 0 (eSl (eI .i64)) h fun a21 h22 h=>
 mSto 0 (eSl (eI .i64)) a19 h22 <|
 mRet 6 h) fun h=>
 mIy 10 (eSl (eI .i64)) h fun a23 h24 h=>
 mLd 0 (eSl (eI .i64)) h24 <|
 mIy 2 (eSl (eI .i64)) h fun a25 h26 h=>
 mLd 0 (eSl (eI .i64)) h26 <|
 mIyf 0 (eSl (eI .i64)) h26 <|
 Ae3 0 (eSl (eI .i64)) a23 h26 <|
 mIy 0 (eSl (eI .i64)) h fun a27 h28 h=>
 mSto 0 (eSl (eI .i64)) a25 h28 <|
 mFin 11 h
theorem L3_step (x1 z0 z1:Int) (z2:List (List Int)) (φ:Int×Bool×List (List Int)->Prop) (h :
 q8_.L5 x1 z0 z1 z2 φ):L3 x1 z0 z1 z2 φ:=
 mIn <|
 mFin 1 h
theorem L5_step (x1 z0 z1:Int) (z2:List (List Int)) (φ:Int×Bool×List (List Int)->Prop) (h :
 (if z0<=z1 then
 ∃ a29,lget z2 z0=some a29 /\
 ∃ a31,lget z2 x1=some a31 /\
 ∃ r33:Int,q33_.C a29 a31 r33 /\
 (if r33<0 then
 q8_.L5 x1 ((IntKind.wrap .i64 (z0+1))) z1 z2 φ
 else
 q8_.L6 x1 z0 z1 z2 φ)
 else
 q8_.L6 x1 z0 z1 z2 φ)):L5 x1 z0 z1 z2 φ:=
 mIn <|
 mAsk 4 h dT dF (fun h=>
 mIy 4 (eSl (eI .i64)) h fun a29 h30 h=>
 mLd 0 (eSl (eI .i64)) h30 <|
 mIy 2 (eSl (eI .i64)) h fun a31 h32 h=>
 mLd 0 (eSl (eI .i64)) h32 <|
 mCal 0 h (fun _ h=>h) fun r33 _ h=>
 mAsk 0 h dT dF (fun h=>
 mFin 9 h) fun h=>
 mFin 4 h) fun h=>
 mFin 16 h
theorem L6_step (x1 z0 z1:Int) (z2:List (List Int)) (φ:Int×Bool×List (List Int)->Prop) (h :
 (if z0<=z1 then
 ∃ a34,lget z2 z1=some a34 /\
 ∃ a36,lget z2 x1=some a36 /\
 ∃ r38:Int,q33_.C a34 a36 r38 /\
 (if r38<0 then
 q8_.L7 x1 z0 z1 z2 φ
 else
 q8_.L6 x1 z0 ((IntKind.wrap .i64 (z1-1))) z2 φ)
 else
 q8_.L7 x1 z0 z1 z2 φ)):L6 x1 z0 z1 z2 φ:=
 mIn <|
 mAsk 4 h dT dF (fun h=>
 mIy 4 (eSl (eI .i64)) h fun a34 h35 h=>
 mLd 0 (eSl (eI .i64)) h35 <|
 mIy 2 (eSl (eI .i64)) h fun a36 h37 h=>
 mLd 0 (eSl (eI .i64)) h37 <|
 mCal 0 h (fun _ h=>h) fun r38 _ h=>
 mAsk 0 h dT dF (fun h=>
 mFin 5 h) fun h=>
 mFin 10 h) fun h=>
 mFin 17 h
theorem L7_step (x1 z0 z1:Int) (z2:List (List Int)) (φ:Int×Bool×List (List Int)->Prop) (h :
 (if z1<z0 then
 ∃ a39,lget z2 x1=some a39 /\
 ∃ a41,lget z2 z1=some a41 /\
 ∃ a43,lget ((lset z2 z1 a39)) x1=some a43 /\
 φ ((z1,false,(lset (lset z2 z1 a39) x1 a41)))
 else
 ∃ a45,lget z2 z1=some a45 /\
 ∃ a47,lget z2 z0=some a47 /\
 ∃ a49,lget ((lset z2 z0 a45)) z1=some a49 /\
 q8_.L3 x1 ((IntKind.wrap .i64 (z0+1))) ((IntKind.wrap .i64 (z1-1))) ((lset (lset z2 z0 a45) z1 a47)) φ)):L7 x1 z0 z1 z2 φ:=
 mIn <|
 mAsk 3 h dT dF (fun h=>
 mIy 10 (eSl (eI .i64)) h fun a39 h40 h=>
 mLd 0 (eSl (eI .i64)) h40 <|
 mIy 2 (eSl (eI .i64)) h fun a41 h42 h=>
 mLd 0 (eSl (eI .i64)) h42 <|
 mIyf 0 (eSl (eI .i64)) h42 <|
 Ae3 0 (eSl (eI .i64)) a39 h42 <|
 mIy 0 (eSl (eI .i64)) h fun a43 h44 h=>
 mSto 0 (eSl (eI .i64)) a41 h44 <|
 mRet 6 h) fun h=>
 mIy 10 (eSl (eI .i64)) h fun a45 h46 h=>
 mLd 0 (eSl (eI .i64)) h46 <|
 mIy 2 (eSl (eI .i64)) h fun a47 h48 h=>
 mLd 0 (eSl (eI .i64)) h48 <|
 mIyf 0 (eSl (eI .i64)) h48 <|
 Ae3 0 (eSl (eI .i64)) a45 h48 <|
 mIy 0 (eSl (eI .i64)) h fun a49 h50 h=>
 mSto 0 (eSl (eI .i64)) a47 h50 <|
 mFin 11 h
theorem enter (x1 x2 x3:Int) (k0_0:List (List Int)) (φ:Int×Bool×List (List Int)->Prop) (h :
 ∃ a1,lget k0_0 x3=some a1 /\
 ∃ a3,lget k0_0 x1=some a3 /\
 ∃ a5,lget ((lset k0_0 x1 a1)) x3=some a5 /\
 q8_.L1 x1 ((IntKind.wrap .i64 (x1+1))) ((IntKind.wrap .i64 (x2-1))) ((lset (lset k0_0 x1 a1) x3 a3)) φ):∃ r,φ r/\C x1 x2 x3 k0_0 r:=
 mEnt (fd:=Tryz.f130) (body:=B) (V:=W) (res:=res) <|
 mIy 11 (eSl (eI .i64)) h fun a1 h2 h=>
 mLd 0 (eSl (eI .i64)) h2 <|
 mIy 2 (eSl (eI .i64)) h fun a3 h4 h=>
 mLd 0 (eSl (eI .i64)) h4 <|
 mIyf 0 (eSl (eI .i64)) h4 <|
 Ae3 0 (eSl (eI .i64)) a1 h4 <|
 mIy 0 (eSl (eI .i64)) h fun a5 h6 h=>
 mSto 0 (eSl (eI .i64)) a3 h6 <|
 mFin 9 h
end q8_
namespace q1_
noncomputable def B:Code:=(Tryz.f129.body).getD .skip
def W:List Nat:=[0,1,2,3,4,10,11,12,47,65,70,1000000]
def res (r:Int×List (List Int)):D×List D:=(.lit (.int .i64 r.1),[.own (r.2.map (eSl (eI .i64)))])
def C (x1 x2 x3:Int) (k0_0:List (List Int)) (r:Int×List (List Int)):Prop:=Ret env 129 [.own (k0_0.map (eSl (eI .i64))),.lit (.int .i64 x1),.lit (.int .i64 x2),.lit (.int .i64 x3),.fn 69 []] (res r).1 (res r).2
def L1 (x1 z0 z1:Int) (z2:List (List Int)) (φ:Int×List (List Int)->Prop):Prop:=Pt env 129 W B [1,1,1,0,0] [(0,.alias 1000000 []),(1,.lit (.int .i64 x1)),(4,.fn 69 []),(11,.lit (.int .i64 z0)),(12,.lit (.int .i64 z1)),(1000000,.own (z2.map (eSl (eI .i64))))] (Lv env 129 Tryz.f129 5 res φ)
def L2 (x1 z0 z1:Int) (z2:List (List Int)) (φ:Int×List (List Int)->Prop):Prop:=Pt env 129 W B [1,1,1,0,0,0,0,0,0] [(0,.alias 1000000 []),(1,.lit (.int .i64 x1)),(4,.fn 69 []),(11,.lit (.int .i64 z0)),(12,.lit (.int .i64 z1)),(1000000,.own (z2.map (eSl (eI .i64))))] (Lv env 129 Tryz.f129 5 res φ)
def L3 (x1 z0 z1:Int) (z2:List (List Int)) (φ:Int×List (List Int)->Prop):Prop:=Pt env 129 W B [1,1,1,0,0,0,0,1,0,0] [(0,.alias 1000000 []),(1,.lit (.int .i64 x1)),(4,.fn 69 []),(11,.lit (.int .i64 z0)),(12,.lit (.int .i64 z1)),(1000000,.own (z2.map (eSl (eI .i64))))] (Lv env 129 Tryz.f129 5 res φ)
def L4 (x1 z0 z1:Int) (z2:List (List Int)) (φ:Int×List (List Int)->Prop):Prop:=Pt env 129 W B [1,1,1,0,0,0,0,1,1,0,0] [(0,.alias 1000000 []),(1,.lit (.int .i64 x1)),(4,.fn 69 []),(11,.lit (.int .i64 z0)),(12,.lit (.int .i64 z1)),(1000000,.own (z2.map (eSl (eI .i64))))] (Lv env 129 Tryz.f129 5 res φ)
theorem L1_step (x1 z0 z1:Int) (z2:List (List Int)) (φ:Int×List (List Int)->Prop) (h :
 q1_.L2 x1 z0 z1 z2 φ):L1 x1 z0 z1 z2 φ:=
 mIn <|
 mFin 1 h
theorem L2_step (x1 z0 z1:Int) (z2:List (List Int)) (φ:Int×List (List Int)->Prop) (h :
 (if z0<=z1 then
 ∃ a7,lget z2 x1=some a7 /\
 ∃ a9,lget z2 z0=some a9 /\
 ∃ r11:Int,q33_.C a7 a9 r11 /\
 (if r11<0 then
 q1_.L3 x1 z0 z1 z2 φ
 else
 q1_.L2 x1 ((IntKind.wrap .i64 (z0+1))) z1 z2 φ)
 else
 q1_.L3 x1 z0 z1 z2 φ)):L2 x1 z0 z1 z2 φ:=
 mIn <|
 mAsk 4 h dT dF (fun h=>
 mIy 4 (eSl (eI .i64)) h fun a7 h8 h=>
 mLd 0 (eSl (eI .i64)) h8 <|
 mIy 2 (eSl (eI .i64)) h fun a9 h10 h=>
 mLd 0 (eSl (eI .i64)) h10 <|
 mCal 0 h (fun _ h=>h) fun r11 _ h=>
 mAsk 0 h dT dF (fun h=>
 mFin 5 h) fun h=>
 mFin 10 h) fun h=>
 mFin 17 h
theorem L3_step (x1 z0 z1:Int) (z2:List (List Int)) (φ:Int×List (List Int)->Prop) (h :
 (if z0<=z1 then
 ∃ a12,lget z2 x1=some a12 /\
 ∃ a14,lget z2 z1=some a14 /\
 ∃ r16:Int,q33_.C a12 a14 r16 /\
 (if r16<0 then
 q1_.L3 x1 z0 ((IntKind.wrap .i64 (z1-1))) z2 φ
 else
 q1_.L4 x1 z0 z1 z2 φ)
 else
 q1_.L4 x1 z0 z1 z2 φ)):L3 x1 z0 z1 z2 φ:=
 mIn <|
 mAsk 4 h dT dF (fun h=>
 mIy 4 (eSl (eI .i64)) h fun a12 h13 h=>
 mLd 0 (eSl (eI .i64)) h13 <|
 mIy 2 (eSl (eI .i64)) h fun a14 h15 h=>
 mLd 0 (eSl (eI .i64)) h15 <|
 mCal 0 h (fun _ h=>h) fun r16 _ h=>
 mAsk 0 h dT dF (fun h=>
 mFin 9 h) fun h=>
 mFin 4 h) fun h=>
 mFin 16 h
theorem L4_step (x1 z0 z1:Int) (z2:List (List Int)) (φ:Int×List (List Int)->Prop) (h :
 (if z1<z0 then
 φ ((z0,z2))
 else
 ∃ a17,lget z2 z1=some a17 /\
 ∃ a19,lget z2 z0=some a19 /\
 ∃ a21,lget ((lset z2 z0 a17)) z1=some a21 /\
 q1_.L1 x1 ((IntKind.wrap .i64 (z0+1))) ((IntKind.wrap .i64 (z1-1))) ((lset (lset z2 z0 a17) z1 a19)) φ)):L4 x1 z0 z1 z2 φ:=
 mIn <|
 mAsk 3 h dT dF (fun h=>
 mRet 7 h) fun h=>
 mIy 10 (eSl (eI .i64)) h fun a17 h18 h=>
 mLd 0 (eSl (eI .i64)) h18 <|
 mIy 2 (eSl (eI .i64)) h fun a19 h20 h=>
 mLd 0 (eSl (eI .i64)) h20 <|
 mIyf 0 (eSl (eI .i64)) h20 <|
 Ae3 0 (eSl (eI .i64)) a17 h20 <|
 mIy 0 (eSl (eI .i64)) h fun a21 h22 h=>
 mSto 0 (eSl (eI .i64)) a19 h22 <|
 mFin 11 h
theorem enter (x1 x2 x3:Int) (k0_0:List (List Int)) (φ:Int×List (List Int)->Prop) (h :
 ∃ a1,lget k0_0 x3=some a1 /\
 ∃ a3,lget k0_0 x1=some a3 /\
 ∃ a5,lget ((lset k0_0 x1 a1)) x3=some a5 /\
 q1_.L1 x1 ((IntKind.wrap .i64 (x1+1))) ((IntKind.wrap .i64 (x2-1))) ((lset (lset k0_0 x1 a1) x3 a3)) φ):∃ r,φ r/\C x1 x2 x3 k0_0 r:=
 mEnt (fd:=Tryz.f129) (body:=B) (V:=W) (res:=res) <|
 mIy 10 (eSl (eI .i64)) h fun a1 h2 h=>
 mLd 0 (eSl (eI .i64)) h2 <|
 mIy 2 (eSl (eI .i64)) h fun a3 h4 h=>
 mLd 0 (eSl (eI .i64)) h4 <|
 mIyf 0 (eSl (eI .i64)) h4 <|
 Ae3 0 (eSl (eI .i64)) a1 h4 <|
 mIy 0 (eSl (eI .i64)) h fun a5 h6 h=>
 mSto 0 (eSl (eI .i64)) a3 h6 <|
 mFin 9 h
end q1_
namespace q5_
noncomputable def B:Code:=(Tryz.f127.body).getD .skip
def W:List Nat:=[0,1,2,3,8,9,15,1000000]
def res (r:List (List Int)):D×List D:=(.tup [],[.own (r.map (eSl (eI .i64)))])
def C (x1 x2:Int) (k0_0 r:List (List Int)):Prop:=Ret env 127 [.own (k0_0.map (eSl (eI .i64))),.lit (.int .i64 x1),.lit (.int .i64 x2),.fn 69 []] (res r).1 (res r).2
def L1 (x1 z0:Int) (k0_0:List (List Int)) (φ:List (List Int)->Prop):Prop:=Pt env 127 W B [1,1,0] [(0,.alias 1000000 []),(8,.lit (.int .i64 x1)),(9,.lit (.int .i64 z0)),(1000000,.own (k0_0.map (eSl (eI .i64))))] (Lv env 127 Tryz.f127 4 res φ)
theorem L1_step (x1 z0:Int) (k0_0:List (List Int)) (φ:List (List Int)->Prop) (h :
 (if x1<z0 then
 ∃ a1,lget k0_0 z0=some a1 /\
 ∃ a3,lget k0_0 x1=some a3 /\
 ∃ a5,lget ((lset k0_0 x1 a1)) z0=some a5 /\
 q5_.L1 ((IntKind.wrap .i64 (x1+1))) ((IntKind.wrap .i64 (z0-1))) ((lset (lset k0_0 x1 a1) z0 a3)) φ
 else
 φ k0_0)):L1 x1 z0 k0_0 φ:=
 mIn <|
 mAsk 4 h dT dF (fun h=>
 mIy 10 (eSl (eI .i64)) h fun a1 h2 h=>
 mLd 0 (eSl (eI .i64)) h2 <|
 mIy 2 (eSl (eI .i64)) h fun a3 h4 h=>
 mLd 0 (eSl (eI .i64)) h4 <|
 mIyf 0 (eSl (eI .i64)) h4 <|
 Ae3 0 (eSl (eI .i64)) a1 h4 <|
 mIy 0 (eSl (eI .i64)) h fun a5 h6 h=>
 mSto 0 (eSl (eI .i64)) a3 h6 <|
 mFin 11 h) fun h=>
 mRet 2 h
theorem enter (x1 x2:Int) (k0_0:List (List Int)) (φ:List (List Int)->Prop) (h :
 q5_.L1 x1 ((IntKind.wrap .i64 (x2-1))) k0_0 φ):∃ r,φ r/\C x1 x2 k0_0 r:=
 mEnt (fd:=Tryz.f127) (body:=B) (V:=W) (res:=res) <|
 mFin 9 h
end q5_
namespace q15_
noncomputable def B:Code:=(Tryz.f160.body).getD .skip
def W:List Nat:=[0,1,2,3,4,10,11,22,1000003]
def res (r:Int×Int×Int):D×List D:=(.tup [.lit (.int .i64 r.1),.lit (.int .i64 r.2.1)],[.box [.lit (.int .i64 r.2.2)]])
def C (x0:List (List Int)) (x1 x2 k3_0:Int) (r:Int×Int×Int):Prop:=Ret env 160 [.sl (x0.map (eSl (eI .i64))),.lit (.int .i64 x1),.lit (.int .i64 x2),.box [.lit (.int .i64 k3_0)],.fn 69 []] (res r).1 (res r).2
theorem enter (x0:List (List Int)) (x1 x2 k3_0:Int) (φ:Int×Int×Int->Prop) (h :
 ∃ a1,lget x0 x2=some a1 /\
 ∃ a3,lget x0 x1=some a3 /\
 ∃ r5:Int,q33_.C a1 a3 r5 /\
 (if r5<0 then
 φ ((x2,x1,(IntKind.wrap .i64 (k3_0+1))))
 else
 φ ((x1,x2,k3_0)))):∃ r,φ r/\C x0 x1 x2 k3_0 r:=
 mEnt (fd:=Tryz.f160) (body:=B) (V:=W) (res:=res) <|
 mIx 8 (eSl (eI .i64)) h fun a1 h2 h=>
 mIx 3 (eSl (eI .i64)) h fun a3 h4 h=>
 mCal 1 h (fun _ h=>h) fun r5 _ h=>
 mAsk 0 h dT dF (fun h=>
 mRet 16 h) fun h=>
 mRet 9 h
end q15_
namespace q16_
noncomputable def B:Code:=(Tryz.f146.body).getD .skip
def W:List Nat:=[0,1,2,3,4,5,12,1000004]
def res (r:Int×Int):D×List D:=(.lit (.int .i64 r.1),[.box [.lit (.int .i64 r.2)]])
def C (x0:List (List Int)) (x1 x2:Int) (x3 k4_0:Int) (r:Int×Int):Prop:=Ret env 146 [.sl (x0.map (eSl (eI .i64))),.lit (.int .i64 x1),.lit (.int .i64 x2),.lit (.int .i64 x3),.box [.lit (.int .i64 k4_0)],.fn 69 []] (res r).1 (res r).2
theorem enter (x0:List (List Int)) (x1 x2:Int) (x3 k4_0:Int) (φ:Int×Int->Prop) (h :
 ∃ r1:Int×Int×Int,q15_.C x0 x1 x2 k4_0 r1 /\
 ∃ r2:Int×Int×Int,q15_.C x0 r1.2.1 x3 r1.2.2 r2 /\
 ∃ r3:Int×Int×Int,q15_.C x0 r1.1 r2.1 r2.2.2 r3 /\
 φ ((r3.2.1,r3.2.2))):∃ r,φ r/\C x0 x1 x2 x3 k4_0 r:=
 mEnt (fd:=Tryz.f146) (body:=B) (V:=W) (res:=res) <|
 mCal 9 h (fun _ h=>h) (hf:=(fun _=>Ab6)) fun r1 _ h=>
 mCal 12 h (fun _ h=>h) (hf:=(fun _=>Ab6)) fun r2 _ h=>
 mCal 12 h (fun _ h=>h) (hf:=(fun _=>Ab6)) fun r3 _ h=>
 mRet 10 h
end q16_
namespace q2_
noncomputable def B:Code:=(Tryz.f145.body).getD .skip
def W:List Nat:=[0,1,2,3,8,1000002]
def res (r:Int×Int):D×List D:=(.lit (.int .i64 r.1),[.box [.lit (.int .i64 r.2)]])
def C (x0:List (List Int)) (x1 k2_0:Int) (r:Int×Int):Prop:=Ret env 145 [.sl (x0.map (eSl (eI .i64))),.lit (.int .i64 x1),.box [.lit (.int .i64 k2_0)],.fn 69 []] (res r).1 (res r).2
theorem enter (x0:List (List Int)) (x1 k2_0:Int) (φ:Int×Int->Prop) (h :
 ∃ r1:Int×Int,q16_.C x0 ((IntKind.wrap .i64 (x1-1))) x1 ((IntKind.wrap .i64 (x1+1))) k2_0 r1 /\
 φ ((r1.1,r1.2))):∃ r,φ r/\C x0 x1 k2_0 r:=
 mEnt (fd:=Tryz.f145) (body:=B) (V:=W) (res:=res) <|
 mCal 12 h (fun _ h=>h) fun r1 _ h=>
 mRet 2 h
end q2_
namespace q6_
noncomputable def B:Code:=(Tryz.f126.body).getD .skip
def W:List Nat:=[0,1,2,3,8,9,10,11,12,13,14,34,36,55,57,60]
def res (r:Int×Int):D×List D:=(.tup [.lit (.int .i64 r.1),.lit (.int .i64 r.2)],[])
def C (x0:List (List Int)) (x1 x2:Int) (r:Int×Int):Prop:=Ret env 126 [.sl (x0.map (eSl (eI .i64))),.lit (.int .i64 x1),.lit (.int .i64 x2),.fn 69 []] (res r).1 (res r).2
def L1 (x0:List (List Int)) (z0 z1:Int) (z2 z3:Int) (φ:Int×Int->Prop):Prop:=Pt env 126 W B [1,1,1,1,1,1,0,1,0,1] [(0,.sl (x0.map (eSl (eI .i64)))),(3,.fn 69 []),(11,.box [.lit (.int .i64 z0)]),(12,.lit (.int .i64 z1)),(13,.lit (.int .i64 z2)),(14,.lit (.int .i64 z3))] (Lv env 126 Tryz.f126 4 res φ)
def L2 (z0 z1:Int) (φ:Int×Int->Prop):Prop:=Pt env 126 W B [1,1,1,1,1,1,1,0] [(11,.box [.lit (.int .i64 z0)]),(13,.lit (.int .i64 z1))] (Lv env 126 Tryz.f126 4 res φ)
theorem L1_step (x0:List (List Int)) (z0 z1:Int) (z2 z3:Int) (φ:Int×Int->Prop) (h :
 ∃ r4:Int×Int,q16_.C x0 z1 z2 z3 z0 r4 /\
 q6_.L2 r4.2 r4.1 φ):L1 x0 z0 z1 z2 z3 φ:=
 mIn <|
 mCal 6 h (fun _ h=>h) fun r4 _ h=>
 mFin 2 h
theorem L2_step (z0 z1:Int) (φ:Int×Int->Prop) (h :
 (if z0=0 then
 φ ((z1,1))
 else
 (if z0=12 then
 φ ((z1,2))
 else
 φ ((z1,0))))):L2 z0 z1 φ:=
 mIn <|
 mCon 7 h Aaw Aav (fun h=>
 mRet 5 h) fun h=>
 mCon 4 h Aaw Aav (fun h=>
 mRet 5 h) fun h=>
 mRet 5 h
theorem enter (x0:List (List Int)) (x1 x2:Int) (φ:Int×Int->Prop) (h :
 (if 8<=(IntKind.wrap .i64 (x2-x1)) then
 (if 50<=(IntKind.wrap .i64 (x2-x1)) then
 ∃ r1:Int×Int,q2_.C x0 ((IntKind.wrap .i64 (x1+(IntKind.wrap .i64 ((IntKind.wrap .i64 (Int.tdiv (IntKind.wrap .i64 (x2-x1)) 4))*1))))) 0 r1 /\
 ∃ r2:Int×Int,q2_.C x0 ((IntKind.wrap .i64 (x1+(IntKind.wrap .i64 ((IntKind.wrap .i64 (Int.tdiv (IntKind.wrap .i64 (x2-x1)) 4))*2))))) r1.2 r2 /\
 ∃ r3:Int×Int,q2_.C x0 ((IntKind.wrap .i64 (x1+(IntKind.wrap .i64 ((IntKind.wrap .i64 (Int.tdiv (IntKind.wrap .i64 (x2-x1)) 4))*3))))) r2.2 r3 /\
 q6_.L1 x0 r3.2 r1.1 r2.1 r3.1 φ
 else
 q6_.L1 x0 0 ((IntKind.wrap .i64 (x1+(IntKind.wrap .i64 ((IntKind.wrap .i64 (Int.tdiv (IntKind.wrap .i64 (x2-x1)) 4))*1))))) ((IntKind.wrap .i64 (x1+(IntKind.wrap .i64 ((IntKind.wrap .i64 (Int.tdiv (IntKind.wrap .i64 (x2-x1)) 4))*2))))) ((IntKind.wrap .i64 (x1+(IntKind.wrap .i64 ((IntKind.wrap .i64 (Int.tdiv (IntKind.wrap .i64 (x2-x1)) 4))*3))))) φ)
 else
 q6_.L2 0 ((IntKind.wrap .i64 (x1+(IntKind.wrap .i64 ((IntKind.wrap .i64 (Int.tdiv (IntKind.wrap .i64 (x2-x1)) 4))*2))))) φ)):∃ r,φ r/\C x0 x1 x2 r:=
 mEnt (fd:=Tryz.f126) (body:=B) (V:=W) (res:=res) <|
 mAsk 39 h dT dF (fun h=>
 mAsk 4 h dT dF (fun h=>
 mCal 6 h (fun _ h=>h) fun r1 _ h=>
 mCal 6 h (fun _ h=>h) fun r2 _ h=>
 mCal 6 h (fun _ h=>h) fun r3 _ h=>
 mFin 2 h) fun h=>
 mFin 3 h) fun h=>
 mFin 3 h
end q6_
namespace q68_
noncomputable def B:Code:=(Tryz.f122.body).getD .skip
def W:List Nat:=[0,2,4,8,14]
def res (r:Int):D×List D:=(.lit (.int .i64 r),[])
def C (x0 r:Int):Prop:=Ret env 122 [.lit (.int .u64 x0)] (res r).1 (res r).2
def L3 (z0 z1:Int) (φ:Int->Prop):Prop:=Pt env 122 W B [1,1,0,0] [(0,.lit (.int .u64 z0)),(2,.lit (.int .i64 z1))] (Lv env 122 Tryz.f122 1 res φ)
def L2 (z0 z1:Int) (φ:Int->Prop):Prop:=Pt env 122 W B [1,1,1,0,0] [(0,.lit (.int .u64 z0)),(2,.lit (.int .i64 z1))] (Lv env 122 Tryz.f122 1 res φ)
def L1 (z0 z1:Int) (φ:Int->Prop):Prop:=Pt env 122 W B [1,1,1,1,0] [(0,.lit (.int .u64 z0)),(2,.lit (.int .i64 z1))] (Lv env 122 Tryz.f122 1 res φ)
theorem L3_step (z0 z1:Int) (φ:Int->Prop) (h :
 (if 65536<=z0 then
 q68_.L2 ((shrw .u64 z0 16)) ((IntKind.wrap .i64 (z1+16))) φ
 else
 q68_.L2 z0 z1 φ)):L3 z0 z1 φ:=
 mIn <|
 mAsk 2 h dT dF (fun h=>
 mFin 12 h) fun h=>
 mFin 3 h
theorem L2_step (z0 z1:Int) (φ:Int->Prop) (h :
 (if 256<=z0 then
 q68_.L1 ((shrw .u64 z0 8)) ((IntKind.wrap .i64 (z1+8))) φ
 else
 q68_.L1 z0 z1 φ)):L2 z0 z1 φ:=
 mIn <|
 mAsk 2 h dT dF (fun h=>
 mFin 12 h) fun h=>
 mFin 3 h
theorem L1_step (z0 z1:Int) (φ:Int->Prop) (h :
 ∃ b1,((0:Int)<=(IntKind.wrap .u8 z0)/\((⟨#[0,1,2,2,3,3,3,3,4,4,4,4,4,4,4,4,5,5,5,5,5,5,5,5,5,5,5,5,5,5,5,5,6,6,6,6,6,6,6,6,6,6,6,6,6,6,6,6,6,6,6,6,6,6,6,6,6,6,6,6,6,6,6,6,7,7,7,7,7,7,7,7,7,7,7,7,7,7,7,7,7,7,7,7,7,7,7,7,7,7,7,7,7,7,7,7,7,7,7,7,7,7,7,7,7,7,7,7,7,7,7,7,7,7,7,7,7,7,7,7,7,7,7,7,7,7,7,7,8,8,8,8,8,8,8,8,8,8,8,8,8,8,8,8,8,8,8,8,8,8,8,8,8,8,8,8,8,8,8,8,8,8,8,8,8,8,8,8,8,8,8,8,8,8,8,8,8,8,8,8,8,8,8,8,8,8,8,8,8,8,8,8,8,8,8,8,8,8,8,8,8,8,8,8,8,8,8,8,8,8,8,8,8,8,8,8,8,8,8,8,8,8,8,8,8,8,8,8,8,8,8,8,8,8,8,8,8,8,8,8,8,8,8,8,8,8,8,8,8,8,8,8,8,8,8,8]⟩:ByteArray))[((IntKind.wrap .u8 z0)).toNat]? = some b1) /\
 φ ((IntKind.wrap .i64 (z1+(IntKind.wrap .i64 (u8i b1)))))):L1 z0 z1 φ:=
 mIn <|
 mSt 4 h fun b1 h=>
 mRet 4 h
theorem enter (x0:Int) (φ:Int->Prop) (h :
 (if 4294967296<=x0 then
 q68_.L3 ((shrw .u64 x0 32)) 32 φ
 else
 q68_.L3 x0 0 φ)):∃ r,φ r/\C x0 r:=
 mEnt (fd:=Tryz.f122) (body:=B) (V:=W) (res:=res) <|
 mAsk 5 h dT dF (fun h=>
 mFin 10 h) fun h=>
 mFin 3 h
end q68_
namespace q83_
noncomputable def B:Code:=(Tryz.f96.body).getD .skip
def W:List Nat:=[0,2]
def res (r:Int):D×List D:=(.lit (.int .i64 r),[])
def C (x0 r:Int):Prop:=Ret env 96 [.lit (.int .u64 x0)] (res r).1 (res r).2
theorem enter (x0:Int) (φ:Int->Prop) (h :
 ∃ r1:Int,q68_.C x0 r1 /\
 φ r1):∃ r,φ r/\C x0 r:=
 mEnt (fd:=Tryz.f96) (body:=B) (V:=W) (res:=res) <|
 mCal 7 h (fun _ h=>h) fun r1 _ h=>
 mRet 2 h
end q83_
namespace q40_
noncomputable def B:Code:=(Tryz.f140.body).getD .skip
def W:List Nat:=[0,2]
def res (r:Int):D×List D:=(.lit (.int .u64 r),[])
def C (x0 r:Int):Prop:=Ret env 140 [.lit (.int .i64 x0)] (res r).1 (res r).2
theorem enter (x0:Int) (φ:Int->Prop) (h :
 ∃ r1:Int,q83_.C ((IntKind.wrap .u64 x0)) r1 /\
 0<=r1 /\
 φ ((shlw .u64 1 r1))):∃ r,φ r/\C x0 r:=
 mEnt (fd:=Tryz.f140) (body:=B) (V:=W) (res:=res) <|
 mCal 6 h (fun _ h=>h) fun r1 _ h=>
 h.elim fun h2 h=>
 mBi 0 (Ayn (t:=175) (q:=.u64) (q':=.i64) (i1:=1) h2) <|
 mRet 2 h
end q40_
namespace q43_
noncomputable def B:Code:=(Tryz.f141.body).getD .skip
def W:List Nat:=[0,2,1000000]
def res (r:Int×Int):D×List D:=(.lit (.int .u64 r.1),[.box [.lit (.int .u64 r.2)]])
def C (k0_0:Int) (r:Int×Int):Prop:=Ret env 141 [.box [.lit (.int .u64 k0_0)]] (res r).1 (res r).2
theorem enter (k0_0:Int) (φ:Int×Int->Prop) (h :
 φ (((bXor .u64 (bXor .u64 (bXor .u64 k0_0 (shlw .u64 k0_0 13)) (shrw .u64 (bXor .u64 k0_0 (shlw .u64 k0_0 13)) 7)) (shlw .u64 (bXor .u64 (bXor .u64 k0_0 (shlw .u64 k0_0 13)) (shrw .u64 (bXor .u64 k0_0 (shlw .u64 k0_0 13)) 7)) 17)),(bXor .u64 (bXor .u64 (bXor .u64 k0_0 (shlw .u64 k0_0 13)) (shrw .u64 (bXor .u64 k0_0 (shlw .u64 k0_0 13)) 7)) (shlw .u64 (bXor .u64 (bXor .u64 k0_0 (shlw .u64 k0_0 13)) (shrw .u64 (bXor .u64 k0_0 (shlw .u64 k0_0 13)) 7)) 17))))):∃ r,φ r/\C k0_0 r:=
 mEnt (fd:=Tryz.f141) (body:=B) (V:=W) (res:=res) <|
 mRet 45 h
end q43_
namespace q4_
noncomputable def B:Code:=(Tryz.f125.body).getD .skip
def W:List Nat:=[0,1,2,3,8,9,10,11,12,17,35,45,1000000]
def res (r:List (List Int)):D×List D:=(.tup [],[.own (r.map (eSl (eI .i64)))])
def C (x1 x2:Int) (k0_0 r:List (List Int)):Prop:=Ret env 125 [.own (k0_0.map (eSl (eI .i64))),.lit (.int .i64 x1),.lit (.int .i64 x2),.fn 69 []] (res r).1 (res r).2
def L1 (x1 z0:Int) (z1 r1 z2:Int) (k0_0:List (List Int)) (φ:List (List Int)->Prop):Prop:=Pt env 125 W B [1,1,0,1,1,1,0] [(0,.alias 1000000 []),(1,.lit (.int .i64 x1)),(8,.lit (.int .i64 z0)),(9,.box [.lit (.int .u64 z1)]),(10,.lit (.int .u64 r1)),(11,.lit (.int .i64 z2)),(1000000,.own (k0_0.map (eSl (eI .i64))))] (Lv env 125 Tryz.f125 4 res φ)
def L2 (x1 z0:Int) (r2:Int×Int) (r1 z1 z2:Int) (k0_0:List (List Int)) (φ:List (List Int)->Prop):Prop:=Pt env 125 W B [1,1,0,1,1,1,0,0,1,0,0,1,1] [(0,.alias 1000000 []),(1,.lit (.int .i64 x1)),(8,.lit (.int .i64 z0)),(9,.box [.lit (.int .u64 r2.2)]),(10,.lit (.int .u64 r1)),(11,.lit (.int .i64 z1)),(12,.lit (.int .i64 z2)),(1000000,.own (k0_0.map (eSl (eI .i64))))] (Lv env 125 Tryz.f125 4 res φ)
theorem L1_step (x1 z0:Int) (z1 r1 z2:Int) (k0_0:List (List Int)) (φ:List (List Int)->Prop) (h :
 (if z2<=(IntKind.wrap .i64 ((IntKind.wrap .i64 (x1+(IntKind.wrap .i64 ((IntKind.wrap .i64 (Int.tdiv z0 4))*2))))+1)) then
 ∃ r2:Int×Int,q43_.C z1 r2 /\
 (if z0<=(IntKind.wrap .i64 (bAnd .u64 r2.1 (IntKind.wrap .u64 (r1-1)))) then
 q4_.L2 x1 z0 r2 r1 z2 ((IntKind.wrap .i64 ((IntKind.wrap .i64 (bAnd .u64 r2.1 (IntKind.wrap .u64 (r1-1))))-z0))) k0_0 φ
 else
 q4_.L2 x1 z0 r2 r1 z2 ((IntKind.wrap .i64 (bAnd .u64 r2.1 (IntKind.wrap .u64 (r1-1))))) k0_0 φ)
 else
 φ k0_0)):L1 x1 z0 z1 r1 z2 k0_0 φ:=
 mIn <|
 mAsk 9 h dT dF (fun h=>
 mCal 4 h (fun _ h=>h) fun r2 _ h=>
 mAsk 9 h dT dF (fun h=>
 mFin 8 h) fun h=>
 mFin 3 h) fun h=>
 mRet 2 h
theorem L2_step (x1 z0:Int) (r2:Int×Int) (r1 z1 z2:Int) (k0_0:List (List Int)) (φ:List (List Int)->Prop) (h :
 ∃ a3,lget k0_0 ((IntKind.wrap .i64 (x1+z2)))=some a3 /\
 ∃ a5,lget k0_0 z1=some a5 /\
 ∃ a7,lget ((lset k0_0 z1 a3)) ((IntKind.wrap .i64 (x1+z2)))=some a7 /\
 q4_.L1 x1 z0 r2.2 r1 ((IntKind.wrap .i64 (z1+1))) ((lset (lset k0_0 z1 a3) (IntKind.wrap .i64 (x1+z2)) a5)) φ):L2 x1 z0 r2 r1 z1 z2 k0_0 φ:=
 mIn <|
 mIy 11 (eSl (eI .i64)) h fun a3 h4 h=>
 mLd 0 (eSl (eI .i64)) h4 <|
 mIy 2 (eSl (eI .i64)) h fun a5 h6 h=>
 mLd 0 (eSl (eI .i64)) h6 <|
 mIyf 0 (eSl (eI .i64)) h6 <|
 Ae3 0 (eSl (eI .i64)) a3 h6 <|
 mIy 0 (eSl (eI .i64)) h fun a7 h8 h=>
 mSto 0 (eSl (eI .i64)) a5 h8 <|
 mFin 6 h
theorem enter (x1 x2:Int) (k0_0:List (List Int)) (φ:List (List Int)->Prop) (h :
 (if 8<=(IntKind.wrap .i64 (x2-x1)) then
 ∃ r1:Int,q40_.C ((IntKind.wrap .i64 (x2-x1))) r1 /\
 q4_.L1 x1 ((IntKind.wrap .i64 (x2-x1))) ((IntKind.wrap .u64 (IntKind.wrap .i64 (x2-x1)))) r1 ((IntKind.wrap .i64 ((IntKind.wrap .i64 (x1+(IntKind.wrap .i64 ((IntKind.wrap .i64 (Int.tdiv (IntKind.wrap .i64 (x2-x1)) 4))*2))))-1))) k0_0 φ
 else
 φ k0_0)):∃ r,φ r/\C x1 x2 k0_0 r:=
 mEnt (fd:=Tryz.f125) (body:=B) (V:=W) (res:=res) <|
 mAsk 8 h dT dF (fun h=>
 mCal 10 h (fun _ h=>h) fun r1 _ h=>
 mFin 11 h) fun h=>
 mRet 2 h
end q4_
namespace q14_
noncomputable def B:Code:=(Tryz.f97.body).getD .skip
def W:List Nat:=[0,1,2,3,4,10,11,12,13,14,15,16,17,18,19,20,25,32,39,56,75,80,97,125,1000000]
def res (r:List (List Int)):D×List D:=(.tup [],[.own (r.map (eSl (eI .i64)))])
def C (x1 x2 x3:Int) (k0_0 r:List (List Int)):Prop:=Ret env 97 [.own (k0_0.map (eSl (eI .i64))),.lit (.int .i64 x1),.lit (.int .i64 x2),.lit (.int .i64 x3),.fn 69 []] (res r).1 (res r).2
def L1 (x1 x2 x3:Int) (z0 z1:Bool) (k0_0:List (List Int)) (φ:List (List Int)->Prop):Prop:=Pt env 97 W B [1,1,0] [(0,.alias 1000000 []),(1,.lit (.int .i64 x1)),(2,.lit (.int .i64 x2)),(3,.lit (.int .i64 x3)),(4,.fn 69 []),(10,.lit (.bool z0)),(11,.lit (.bool z1)),(1000000,.own (k0_0.map (eSl (eI .i64))))] (Lv env 97 Tryz.f97 5 res φ)
def L5 (x1 x2 x3:Int) (z0 z1:Bool) (k0_0:List (List Int)) (φ:List (List Int)->Prop):Prop:=Pt env 97 W B [1,1,0,0,0,1,1,1,1,0] [(0,.alias 1000000 []),(1,.lit (.int .i64 x1)),(2,.lit (.int .i64 x2)),(3,.lit (.int .i64 x3)),(4,.fn 69 []),(10,.lit (.bool z0)),(11,.lit (.bool z1)),(12,.lit (.int .i64 ((IntKind.wrap .i64 (x2-x1))))),(1000000,.own (k0_0.map (eSl (eI .i64))))] (Lv env 97 Tryz.f97 5 res φ)
def L4 (x1 x2 x3:Int) (z0 z1:Bool) (z2 z3:Int) (r79:List (List Int)) (φ:List (List Int)->Prop):Prop:=Pt env 97 W B [1,1,0,0,0,1,1,1,1,1,1,0,0] [(0,.alias 1000000 []),(1,.lit (.int .i64 x1)),(2,.lit (.int .i64 x2)),(3,.lit (.int .i64 x3)),(4,.fn 69 []),(10,.lit (.bool z0)),(11,.lit (.bool z1)),(12,.lit (.int .i64 ((IntKind.wrap .i64 (x2-x1))))),(13,.lit (.int .i64 z2)),(14,.lit (.int .i64 z3)),(1000000,.own (r79.map (eSl (eI .i64))))] (Lv env 97 Tryz.f97 5 res φ)
def L3 (x1 x2 x3:Int) (z0 z1:Bool) (z2:Int) (z3:List (List Int)) (φ:List (List Int)->Prop):Prop:=Pt env 97 W B [1,1,0,0,0,1,1,1,1,1,1,1,0,0] [(0,.alias 1000000 []),(1,.lit (.int .i64 x1)),(2,.lit (.int .i64 x2)),(3,.lit (.int .i64 x3)),(4,.fn 69 []),(10,.lit (.bool z0)),(11,.lit (.bool z1)),(12,.lit (.int .i64 ((IntKind.wrap .i64 (x2-x1))))),(13,.lit (.int .i64 z2)),(1000000,.own (z3.map (eSl (eI .i64))))] (Lv env 97 Tryz.f97 5 res φ)
def L2 (x1 x2:Int) (x3 z0:Int) (z1:List (List Int)) (φ:List (List Int)->Prop):Prop:=Pt env 97 W B [1,1,0,0,0,1,1,1,1,1,1,1,1,0] [(0,.alias 1000000 []),(1,.lit (.int .i64 x1)),(2,.lit (.int .i64 x2)),(3,.lit (.int .i64 x3)),(4,.fn 69 []),(12,.lit (.int .i64 ((IntKind.wrap .i64 (x2-x1))))),(13,.lit (.int .i64 z0)),(1000000,.own (z1.map (eSl (eI .i64))))] (Lv env 97 Tryz.f97 5 res φ)
theorem L1_step (x1 x2 x3:Int) (z0 z1:Bool) (k0_0:List (List Int)) (φ:List (List Int)->Prop) (h :
 (if (IntKind.wrap .i64 (x2-x1))<=12 then
 ∃ r100:List (List Int),q3_.C x1 x2 k0_0 r100 /\
 φ r100
 else
 (if x3=0 then
 ∃ r101:List (List Int),q12_.C x1 x2 k0_0 r101 /\
 φ r101
 else
 (if z0=true then
 q14_.L5 x1 x2 x3 z0 z1 k0_0 φ
 else
 ∃ r102:List (List Int),q4_.C x1 x2 k0_0 r102 /\
 q14_.L5 x1 x2 ((IntKind.wrap .i64 (x3-1))) z0 z1 r102 φ)))):L1 x1 x2 x3 z0 z1 k0_0 φ:=
 mIn <|
 mAsk 9 h dT dF (fun h=>
 mCal 7 h (fun _ h=>h) (hf:=(fun _=>Ab6)) fun r100 _ h=>
 mRet 1 h) fun h=>
 mAsk 5 h Aaw Aav (fun h=>
 mCal 7 h (fun _ h=>h) (hf:=(fun _=>Ab6)) fun r101 _ h=>
 mRet 1 h) fun h=>
 mAsk 4 h id fls (fun h=>
 mFin 4 h) fun h=>
 mCal 8 h (fun _ h=>h) (hf:=(fun _=>Ab6)) fun r102 _ h=>
 mFin 6 h
theorem L5_step (x1 x2 x3:Int) (z0 z1:Bool) (k0_0:List (List Int)) (φ:List (List Int)->Prop) (h :
 ∃ r103:Int×Int,q6_.C k0_0 x1 x2 r103 /\
 (if r103.2=2 then
 ∃ r104:List (List Int),q5_.C x1 x2 k0_0 r104 /\
 q14_.L4 x1 x2 x3 z0 z1 ((IntKind.wrap .i64 ((IntKind.wrap .i64 (x2-1))-(IntKind.wrap .i64 (r103.1-x1))))) 1 r104 φ
 else
 q14_.L4 x1 x2 x3 z0 z1 r103.1 r103.2 k0_0 φ)):L5 x1 x2 x3 z0 z1 k0_0 φ:=
 mIn <|
 mCal 5 h (fun _ h=>h) (hr:=by exact (Agr (Aj3 (s:=1000000) (ps:=[]) (l:=k0_0) (e:=(eSl (eI .i64))) (e':=(eSl (eI .i64))) (fun _=>rfl) (by kernel_rfl)) (pr_k (pr_k (pr_k Ajm))))) (hf:=(fun _=>Ab4 (Af8 (Aa2 rfl (Aa2 rfl Ab7))) rfl)) fun r103 _ h=>
 mAsk 8 h Aaw Aav (fun h=>
 mCal 7 h (fun _ h=>h) (hf:=(fun _=>Ab6)) fun r104 _ h=>
 mFin 13 h) fun h=>
 mFin 3 h
theorem L4_step (x1 x2 x3:Int) (z0 z1:Bool) (z2 z3:Int) (r79:List (List Int)) (φ:List (List Int)->Prop) (h :
 (if z0=true then
 (if z1=true then
 (if z3=1 then
 ∃ r105:Bool×List (List Int),q0_.C x1 x2 r79 r105 /\
 (if r105.1=true then
 φ r105.2
 else
 q14_.L3 x1 x2 x3 z0 z1 z2 r105.2 φ)
 else
 q14_.L3 x1 x2 x3 z0 z1 z2 r79 φ)
 else
 q14_.L3 x1 x2 x3 z0 z1 z2 r79 φ)
 else
 q14_.L3 x1 x2 x3 z0 z1 z2 r79 φ)):L4 x1 x2 x3 z0 z1 z2 z3 r79 φ:=
 mIn <|
 mAsk 1 h id fls (fun h=>
 mAsk 1 h id fls (fun h=>
 mAsk 3 h Aaw Aav (fun h=>
 mCal 8 h (fun _ h=>h) (hf:=(fun _=>Ab6)) fun r105 _ h=>
 mCon 1 h id fls (fun h=>
 mRet 0 h) fun h=>
 mFin 1 h) fun h=>
 mFin 4 h) fun h=>
 mFin 8 h) fun h=>
 mFin 10 h
theorem L3_step (x1 x2 x3:Int) (z0 z1:Bool) (z2:Int) (z3:List (List Int)) (φ:List (List Int)->Prop) (h :
 (if 0<x1 then
 ∃ a106,lget z3 ((IntKind.wrap .i64 (x1-1)))=some a106 /\
 ∃ a108,lget z3 z2=some a108 /\
 ∃ r110:Int,q33_.C a106 a108 r110 /\
 (if r110<0 then
 q14_.L2 x1 x2 x3 z2 z3 φ
 else
 ∃ r111:Int×List (List Int),q1_.C x1 x2 z2 z3 r111 /\
 q14_.L1 r111.1 x2 x3 z0 z1 r111.2 φ)
 else
 q14_.L2 x1 x2 x3 z2 z3 φ)):L3 x1 x2 x3 z0 z1 z2 z3 φ:=
 mIn <|
 mAsk 2 h dT dF (fun h=>
 mIy 5 (eSl (eI .i64)) h fun a106 h107 h=>
 mLd 0 (eSl (eI .i64)) h107 <|
 mIy 2 (eSl (eI .i64)) h fun a108 h109 h=>
 mLd 0 (eSl (eI .i64)) h109 <|
 mCal 0 h (fun _ h=>h) fun r110 _ h=>
 mAsk 0 h dT dF (fun h=>
 mFin 5 h) fun h=>
 mCal 10 h (fun _ h=>h) (hf:=(fun _=>Ab6)) fun r111 _ h=>
 mFin 7 h) fun h=>
 mFin 18 h
theorem L2_step (x1 x2:Int) (x3 z0:Int) (z1:List (List Int)) (φ:List (List Int)->Prop) (h :
 ∃ r112:Int×Bool×List (List Int),q8_.C x1 x2 z0 z1 r112 /\
 (if (IntKind.wrap .i64 (r112.1-x1))<(IntKind.wrap .i64 (x2-r112.1)) then
 ∃ r113:List (List Int),q14_.C x1 r112.1 x3 r112.2.2 r113 /\
 q14_.L1 ((IntKind.wrap .i64 (r112.1+1))) x2 x3 ((decide ((IntKind.wrap .i64 (Int.tdiv (IntKind.wrap .i64 (x2-x1)) 8))<=(IntKind.wrap .i64 (r112.1-x1))))) r112.2.1 r113 φ
 else
 ∃ r114:List (List Int),q14_.C ((IntKind.wrap .i64 (r112.1+1))) x2 x3 r112.2.2 r114 /\
 q14_.L1 x1 r112.1 x3 ((decide ((IntKind.wrap .i64 (Int.tdiv (IntKind.wrap .i64 (x2-x1)) 8))<=(IntKind.wrap .i64 (x2-r112.1))))) r112.2.1 r114 φ)):L2 x1 x2 x3 z0 z1 φ:=
 mIn <|
 mCal 6 h (fun _ h=>h) (hf:=(fun _=>Ab6)) fun r112 _ h=>
 mAsk 28 h dT dF (fun h=>
 mCal 14 h (fun _ h=>h) (hf:=(fun _=>Ab6)) fun r113 _ h=>
 mFin 6 h) fun h=>
 mCal 15 h (fun _ h=>h) (hf:=(fun _=>Ab6)) fun r114 _ h=>
 mFin 5 h
theorem enter (x1 x2 x3:Int) (k0_0:List (List Int)) (φ:List (List Int)->Prop) (h :
 q14_.L1 x1 x2 x3 true true k0_0 φ):∃ r,φ r/\C x1 x2 x3 k0_0 r:=
 mEnt (fd:=Tryz.f97) (body:=B) (V:=W) (res:=res) <|
 mFin 6 h
end q14_
namespace q9_
noncomputable def B:Code:=(Tryz.f68.body).getD .skip
def W:List Nat:=[0,1,4,1000000]
def res (r:List (List Int)):D×List D:=(.tup [],[.own (r.map (eSl (eI .i64)))])
def C (k0_0 r:List (List Int)):Prop:=Ret env 68 [.own (k0_0.map (eSl (eI .i64))),.fn 69 []] (res r).1 (res r).2
theorem enter (k0_0:List (List Int)) (φ:List (List Int)->Prop) (h :
 ∃ r1:Int,q83_.C ((IntKind.wrap .u64 (k0_0.length:Int))) r1 /\
 ∃ r2:List (List Int),q14_.C 0 ((k0_0.length:Int)) r1 k0_0 r2 /\
 φ r2):∃ r,φ r/\C k0_0 r:=
 mEnt (fd:=Tryz.f68) (body:=B) (V:=W) (res:=res) <|
 mLen 2 (eSl (eI .i64)) k0_0 <|
 mCal 7 h (fun _ h=>h) fun r1 _ h=>
 mCal 1 h (fun _ h=>h) (hf:=(fun _=>Ab6)) fun r2 _ h=>
 mRet 0 h
end q9_
namespace q34_
noncomputable def B:Code:=(Tryz.f76.body).getD .skip
def W:List Nat:=[0,1,4,5,7,8,9,16]
def res (r:Int):D×List D:=(.lit (.int .i64 r),[])
def C (x0:List ByteArray) (x1:ByteArray) (r:Int):Prop:=Ret env 76 [.sl (x0.map eS),.lit (.string x1)] (res r).1 (res r).2
def L1 (x0:List ByteArray) (x1:ByteArray) (z0:Int) (φ:Int->Prop):Prop:=Pt env 76 W B [1,0,1,0] [(0,.sl (x0.map eS)),(1,.lit (.string x1)),(7,.lit (.int .i64 ((x0.length:Int)))),(8,.lit (.int .i64 z0))] (Lv env 76 Tryz.f76 2 res φ)
theorem L1_step (x0:List ByteArray) (x1:ByteArray) (z0:Int) (φ:Int->Prop) (h :
 (if z0<(x0.length:Int) then
 ∃ a1,lget x0 z0=some a1 /\
 (if x1.toList=a1.toList then
 φ z0
 else
 q34_.L1 x0 x1 ((IntKind.wrap .i64 (z0+1))) φ)
 else
 φ ((-1)))):L1 x0 x1 z0 φ:=
 mIn <|
 mAsk 2 h dT dF (fun h=>
 mIx 11 eS h fun a1 h2 h=>
 mAsk 1 h Bav Bau (fun h=>
 mRet 6 h) fun h=>
 mFin 7 h) fun h=>
 mRet 6 h
theorem enter (x0:List ByteArray) (x1:ByteArray) (φ:Int->Prop) (h :
 q34_.L1 x0 x1 0 φ):∃ r,φ r/\C x0 x1 r:=
 mEnt (fd:=Tryz.f76) (body:=B) (V:=W) (res:=res) <|
 mLen 5 eS x0 <|
 mFin 2 h
end q34_
namespace q31_
noncomputable def B:Code:=(Tryz.f45.body).getD .skip
def W:List Nat:=[0,1,4]
def res (r:Bool):D×List D:=(.lit (.bool r),[])
def C (x0:List ByteArray) (x1:ByteArray) (r:Bool):Prop:=Ret env 45 [.sl (x0.map eS),.lit (.string x1)] (res r).1 (res r).2
theorem enter (x0:List ByteArray) (x1:ByteArray) (φ:Bool->Prop) (h :
 ∃ r1:Int,q34_.C x0 x1 r1 /\
 φ ((decide (0<=r1)))):∃ r,φ r/\C x0 x1 r:=
 mEnt (fd:=Tryz.f45) (body:=B) (V:=W) (res:=res) <|
 mCal 6 h (fun _ h=>h) fun r1 _ h=>
 mRet 3 h
end q31_
namespace q89_
noncomputable def B:Code:=(Tryz.f44.body).getD .skip
def W:List Nat:=[0,2,3,4,5,16,18,19,20,56]
def res (r:Bool):D×List D:=(.lit (.bool r),[])
def C (x0:ByteArray) (r:Bool):Prop:=Ret env 44 [.lit (.string x0)] (res r).1 (res r).2
def L1 (x0:ByteArray) (z0:Int) (φ:Bool->Prop):Prop:=Pt env 44 W B [1,1,0,1,0] [(0,.lit (.string x0)),(18,.lit (.int .i64 ((Ag6 x0)))),(19,.lit (.int .i64 z0))] (Lv env 44 Tryz.f44 1 res φ)
def L2 (x0:ByteArray) (z0 z1:Int) (z2:Bool) (φ:Bool->Prop):Prop:=Pt env 44 W B [1,1,0,1,0,0,1,1,0,0,1,1,1,0] [(0,.lit (.string x0)),(3,.lit (.int .i64 z0)),(4,.lit (.int .u8 z1)),(5,.lit (.bool z2)),(18,.lit (.int .i64 ((Ag6 x0)))),(19,.lit (.int .i64 z0))] (Lv env 44 Tryz.f44 1 res φ)
def L3 (x0:ByteArray) (z0:Int) (φ:Bool->Prop):Prop:=Pt env 44 W B [1,1,0,1,0,0,1,1,1] [(0,.lit (.string x0)),(18,.lit (.int .i64 ((Ag6 x0)))),(19,.lit (.int .i64 z0))] (Lv env 44 Tryz.f44 1 res φ)
theorem L1_step (x0:ByteArray) (z0:Int) (φ:Bool->Prop) (h :
 (if z0<(Ag6 x0) then
 ∃ b1,((0:Int)<=z0/\x0[(z0).toNat]? = some b1) /\
 (if 97<=(u8i b1) then
 (if (u8i b1)<=122 then
 q89_.L2 x0 z0 ((u8i b1)) true φ
 else
 (if 65<=(u8i b1) then
 (if (u8i b1)<=90 then
 q89_.L2 x0 z0 ((u8i b1)) true φ
 else
 q89_.L2 x0 z0 ((u8i b1)) (((u8i b1) == 95)) φ)
 else
 q89_.L2 x0 z0 ((u8i b1)) (((u8i b1) == 95)) φ))
 else
 (if 65<=(u8i b1) then
 (if (u8i b1)<=90 then
 q89_.L2 x0 z0 ((u8i b1)) true φ
 else
 q89_.L2 x0 z0 ((u8i b1)) (((u8i b1) == 95)) φ)
 else
 q89_.L2 x0 z0 ((u8i b1)) (((u8i b1) == 95)) φ))
 else
 φ true)):L1 x0 z0 φ:=
 mIn <|
 mAsk 2 h dT dF (fun h=>
 mSt 10 h fun b1 h=>
 mAsk 4 h dT dF (fun h=>
 mAsk 2 h dT dF (fun h=>
 mFin 15 h) fun h=>
 mAsk 3 h dT dF (fun h=>
 mAsk 2 h dT dF (fun h=>
 mFin 8 h) fun h=>
 mFin 8 h) fun h=>
 mFin 11 h) fun h=>
 mAsk 6 h dT dF (fun h=>
 mAsk 2 h dT dF (fun h=>
 mFin 8 h) fun h=>
 mFin 8 h) fun h=>
 mFin 11 h) fun h=>
 mRet 6 h
theorem L2_step (x0:ByteArray) (z0 z1:Int) (z2:Bool) (φ:Bool->Prop) (h :
 (if z2=true then
 q89_.L3 x0 z0 φ
 else
 (if z0=0 then
 φ false
 else
 (if z1<48 then
 φ false
 else
 (if 57<z1 then
 φ false
 else
 q89_.L3 x0 z0 φ))))):L2 x0 z0 z1 z2 φ:=
 mIn <|
 mAsk 1 h id fls (fun h=>
 mFin 16 h) fun h=>
 mAsk 3 h Aaw Aav (fun h=>
 mRet 14 h) fun h=>
 mAsk 2 h dT dF (fun h=>
 mRet 11 h) fun h=>
 mAsk 3 h dT dF (fun h=>
 mRet 7 h) fun h=>
 mFin 5 h
theorem L3_step (x0:ByteArray) (z0:Int) (φ:Bool->Prop) (h :
 q89_.L1 x0 ((IntKind.wrap .i64 (z0+1))) φ):L3 x0 z0 φ:=
 mIn <|
 mFin 4 h
theorem enter (x0:ByteArray) (φ:Bool->Prop) (h :
 (if x0.toList=((⟨#[]⟩:ByteArray)).toList then
 φ false
 else
 (if 24<(Ag6 x0) then
 φ false
 else
 (if x0.toList=((⟨#[110,117,108,108]⟩:ByteArray)).toList then
 φ false
 else
 q89_.L1 x0 0 φ)))):∃ r,φ r/\C x0 r:=
 mEnt (fd:=Tryz.f44) (body:=B) (V:=W) (res:=res) <|
 mAsk 5 h Bav Bau (fun h=>
 mRet 14 h) fun h=>
 mAsk 3 h dT dF (fun h=>
 mRet 10 h) fun h=>
 mAsk 3 h Bav Bau (fun h=>
 mRet 6 h) fun h=>
 mFin 9 h
end q89_
namespace q93_
noncomputable def B:Code:=(Tryz.f79.body).getD .skip
def W:List Nat:=[0,1,2,4,5,15,20,31]
def res (r:Bool):D×List D:=(.lit (.bool r),[])
def C (x0:api_Value) (r:Bool):Prop:=Ret env 79 [.agg [.lit (.int .i64 x0.Kind),.lit (.int .i64 x0.Num),.lit (.string x0.Str)]] (res r).1 (res r).2
theorem enter (x0:api_Value) (φ:Bool->Prop) (h :
 (if x0.Kind=0 then
 (if x0.Num=0 then
 φ ((x0.Str.toList == ((⟨#[]⟩:ByteArray)).toList))
 else
 φ false)
 else
 (if x0.Kind=1 then
 φ ((x0.Str.toList == ((⟨#[]⟩:ByteArray)).toList))
 else
 (if x0.Kind=2 then
 (if x0.Num=0 then
 φ ((decide ((Ag6 x0.Str)<=200)))
 else
 φ false)
 else
 (if x0.Kind=3 then
 (if 1<=x0.Num then
 φ ((x0.Str.toList == ((⟨#[]⟩:ByteArray)).toList))
 else
 φ false)
 else
 φ false))))):∃ r,φ r/\C x0 r:=
 mEnt (fd:=Tryz.f79) (body:=B) (V:=W) (res:=res) <|
 mCon 12 h Aaw Aav (fun h=>
 mAsk 3 h Aaw Aav (fun h=>
 mRet 7 h) fun h=>
 mRet 7 h) fun h=>
 mCon 4 h Aaw Aav (fun h=>
 mRet 6 h) fun h=>
 mCon 4 h Aaw Aav (fun h=>
 mAsk 3 h Aaw Aav (fun h=>
 mRet 8 h) fun h=>
 mRet 8 h) fun h=>
 mCon 4 h Aaw Aav (fun h=>
 mAsk 3 h dT dF (fun h=>
 mRet 7 h) fun h=>
 mRet 7 h) fun h=>
 mRet 4 h
end q93_
namespace q44_
noncomputable def B:Code:=(Tryz.f78.body).getD .skip
def W:List Nat:=[0,1,2]
def res (r:Bool):D×List D:=(.lit (.bool r),[])
def C (x0:api_Value) (r:Bool):Prop:=Ret env 78 [.agg [.lit (.int .i64 x0.Kind),.lit (.int .i64 x0.Num),.lit (.string x0.Str)]] (res r).1 (res r).2
theorem enter (x0:api_Value) (φ:Bool->Prop) (h :
 ∃ r1:Bool,q93_.C x0 r1 /\
 φ ((not r1))):∃ r,φ r/\C x0 r:=
 mEnt (fd:=Tryz.f78) (body:=B) (V:=W) (res:=res) <|
 mCal 6 h (fun _ h=>h) fun r1 _ h=>
 mRet 3 h
end q44_
namespace q13_
noncomputable def B:Code:=(Tryz.f103.body).getD .skip
def W:List Nat:=[0,1,4,5,7,8,9,16]
def res (r:Int):D×List D:=(.lit (.int .i64 r),[])
def C (x0:List api_Value) (r:Int):Prop:=Ret env 103 [.sl (x0.map Aa3),.fn 78 []] (res r).1 (res r).2
def L1 (x0:List api_Value) (z0:Int) (φ:Int->Prop):Prop:=Pt env 103 W B [1,0,1,0] [(0,.sl (x0.map Aa3)),(1,.fn 78 []),(7,.lit (.int .i64 ((x0.length:Int)))),(8,.lit (.int .i64 z0))] (Lv env 103 Tryz.f103 2 res φ)
theorem L1_step (x0:List api_Value) (z0:Int) (φ:Int->Prop) (h :
 (if z0<(x0.length:Int) then
 ∃ a1,lget x0 z0=some a1 /\
 ∃ r3:Bool,q44_.C a1 r3 /\
 (if r3=true then
 φ z0
 else
 q13_.L1 x0 ((IntKind.wrap .i64 (z0+1))) φ)
 else
 φ ((-1)))):L1 x0 z0 φ:=
 mIn <|
 mAsk 2 h dT dF (fun h=>
 mIx 11 Aa3 h fun a1 h2 h=>
 Abv 1 h (fun _ h=>h) (fun _ h=>
 mRet 6 h) fun _ h=>
 mFin 7 h) fun h=>
 mRet 6 h
theorem enter (x0:List api_Value) (φ:Int->Prop) (h :
 q13_.L1 x0 0 φ):∃ r,φ r/\C x0 r:=
 mEnt (fd:=Tryz.f103) (body:=B) (V:=W) (res:=res) <|
 mLen 5 Aa3 x0 <|
 mFin 2 h
end q13_
namespace q7_
noncomputable def B:Code:=(Tryz.f77.body).getD .skip
def W:List Nat:=[0,1,4]
def res (r:Bool):D×List D:=(.lit (.bool r),[])
def C (x0:List api_Value) (r:Bool):Prop:=Ret env 77 [.sl (x0.map Aa3),.fn 78 []] (res r).1 (res r).2
theorem enter (x0:List api_Value) (φ:Bool->Prop) (h :
 ∃ r1:Int,q13_.C x0 r1 /\
 φ ((decide (0<=r1)))):∃ r,φ r/\C x0 r:=
 mEnt (fd:=Tryz.f77) (body:=B) (V:=W) (res:=res) <|
 mCal 6 h (fun _ h=>h) fun r1 _ h=>
 mRet 3 h
end q7_
namespace q50_
noncomputable def B:Code:=(Tryz.f46.body).getD .skip
def W:List Nat:=[0,2]
def res (r:Bool):D×List D:=(.lit (.bool r),[])
def C (x0:List api_Value) (r:Bool):Prop:=Ret env 46 [.sl (x0.map Aa3)] (res r).1 (res r).2
theorem enter (x0:List api_Value) (φ:Bool->Prop) (h :
 ∃ r1:Bool,q7_.C x0 r1 /\
 φ ((not r1))):∃ r,φ r/\C x0 r:=
 mEnt (fd:=Tryz.f46) (body:=B) (V:=W) (res:=res) <|
 mCal 5 h (fun _ h=>h) fun r1 _ h=>
 mRet 3 h
end q50_
namespace q94_
noncomputable def B:Code:=(Tryz.f19.body).getD .skip
def W:List Nat:=[0,1,2,3,4,5,7,11,21,23,24,25,26,40,43,44,45,46,49,54,62]
def res (r:Int):D×List D:=(.lit (.int .i64 r),[])
def C (x0:api_Table) (r:Int):Prop:=Ret env 19 [.agg [.lit (.string x0.Name),.sl (x0.Attrs.map eS),.sl (x0.Rows.map Aa1)]] (res r).1 (res r).2
def L1 (x0:api_Table) (z0:Int) (φ:Int->Prop):Prop:=Pt env 19 W B [1,1,1,0,1,0] [(0,.agg [.lit (.string x0.Name),.sl (x0.Attrs.map eS),.sl (x0.Rows.map Aa1)]),(1,.box [.lit (.string x0.Name),.sl (x0.Attrs.map eS),.sl (x0.Rows.map Aa1)]),(23,.sl (x0.Attrs.map eS)),(24,.lit (.int .i64 ((x0.Attrs.length:Int)))),(25,.lit (.int .i64 z0))] (Lv env 19 Tryz.f19 1 res φ)
def L2 (x0:api_Table) (z0 z1:Int) (φ:Int->Prop):Prop:=Pt env 19 W B [1,1,1,1,1,0,1,0] [(0,.agg [.lit (.string x0.Name),.sl (x0.Attrs.map eS),.sl (x0.Rows.map Aa1)]),(1,.box [.lit (.string x0.Name),.sl (x0.Attrs.map eS),.sl (x0.Rows.map Aa1)]),(5,.lit (.int .i64 z0)),(43,.sl (x0.Rows.map Aa1)),(44,.lit (.int .i64 ((x0.Rows.length:Int)))),(45,.lit (.int .i64 z1))] (Lv env 19 Tryz.f19 1 res φ)
theorem L1_step (x0:api_Table) (z0:Int) (φ:Int->Prop) (h :
 (if z0<(x0.Attrs.length:Int) then
 ∃ a2,lget x0.Attrs z0=some a2 /\
 ∃ r4:Bool,q89_.C a2 r4 /\
 (if r4=true then
 0<=z0 /\
 (0<=z0.toNat/\z0.toNat<=x0.Attrs.length) /\
 ∃ r7:Bool,q31_.C ((List.take (z0.toNat-0) x0.Attrs)) a2 r7 /\
 (if r7=true then
 φ 1
 else
 q94_.L1 x0 ((IntKind.wrap .i64 (z0+1))) φ)
 else
 φ 1)
 else
 q94_.L2 x0 0 0 φ)):L1 x0 z0 φ:=
 mIn <|
 mAsk 2 h dT dF (fun h=>
 mIx 5 eS h fun a2 h3 h=>
 Abv 6 h (fun _ h=>h) (fun _ h=>
 h.elim fun h5 h=>
 h.elim fun h6 h=>
 mVl 5 (Axh (t:=27) (x:=(.tmp 35)) (lo:=none) (hi:=(some (.tmp 36))) (lo':=none) (hi':=some (z0).toNat) (e:=eS) (l:=x0.Attrs) (et:=9) (k:=1) (by kernel_rfl) (by kernel_rfl) Ag3 (Ag4 (i:=z0) (q:=.i64) (by kernel_rfl) h5) (by kernel_rfl) (by kernel_rfl) (fun _=>rfl) (by kernel_rfl) h6.1 h6.2) <|
 Abv 1 h (fun _ h=>h) (fun _ h=>
 mRet 6 h) fun _ h=>
 mFin 8 h) fun _ h=>
 mRet 14 h) fun h=>
 mLen 9 Aa1 x0.Rows <|
 mFin 2 h
theorem L2_step (x0:api_Table) (z0 z1:Int) (φ:Int->Prop) (h :
 (if z1<(x0.Rows.length:Int) then
 ∃ a8,lget x0.Rows z1=some a8 /\
 (if a8.ID<=z0 then
 φ 1
 else
 (if (a8.Values.length:Int)=(x0.Attrs.length:Int) then
 ∃ r10:Bool,q50_.C a8.Values r10 /\
 (if r10=true then
 q94_.L2 x0 a8.ID ((IntKind.wrap .i64 (z1+1))) φ
 else
 φ 1)
 else
 φ 6))
 else
 φ 0)):L2 x0 z0 z1 φ:=
 mIn <|
 mAsk 2 h dT dF (fun h=>
 mIx 4 Aa1 h fun a8 h9 h=>
 mCon 11 h dT dF (fun h=>
 mRet 3 h) fun h=>
 mLen 3 Aa3 a8.Values <|
 mLen 2 eS x0.Attrs <|
 Bae 3 h Ae1 Ae0 (fun h=>
 mRet 3 h) fun h=>
 mCal 3 h (fun _ h=>h) fun r10 _ h=>
 Bae 3 h (fun h=>fls (Avn h)) (fun h=>id (Avm h)) (fun h=>
 mRet 3 h) fun h=>
 mFin 10 h) fun h=>
 mRet 6 h
theorem enter (x0:api_Table) (φ:Int->Prop) (h :
 ∃ r1:Bool,q89_.C x0.Name r1 /\
 (if r1=true then
 (if 16<(x0.Attrs.length:Int) then
 φ 3
 else
 (if 1000<(x0.Rows.length:Int) then
 φ 3
 else
 q94_.L1 x0 0 φ))
 else
 φ 1)):∃ r,φ r/\C x0 r:=
 mEnt (fd:=Tryz.f19) (body:=B) (V:=W) (res:=res) <|
 Abv 7 h (fun _ h=>h) (fun _ h=>
 mLen 7 eS x0.Attrs <|
 mAsk 0 h dT dF (fun h=>
 mRet 11 h) fun h=>
 mLen 3 Aa1 x0.Rows <|
 mAsk 0 h dT dF (fun h=>
 mRet 6 h) fun h=>
 mLen 7 eS x0.Attrs <|
 mFin 2 h) fun _ h=>
 mRet 6 h
end q94_
namespace q69_
noncomputable def B:Code:=(Tryz.f23.body).getD .skip
def W:List Nat:=[0,2,3,5]
def res (r:List Int):D×List D:=(.own (r.map (eI .i64)),[])
def C (x0:Int) (r:List Int):Prop:=Ret env 23 [.lit (.int .u32 x0)] (res r).1 (res r).2
def L1 (x0:Int) (z0:List Int) (φ:List Int->Prop):Prop:=Pt env 23 W B [1,1,0,0] [(0,.lit (.int .u32 x0)),(3,.own (z0.map (eI .i64)))] (Lv env 23 Tryz.f23 1 res φ)
theorem L1_step (x0:Int) (z0:List Int) (φ:List Int->Prop) (h :
 (if x0=0 then
 φ z0
 else
 (0<=x0/\x0<4294967296) /\
 (z0.length+1)*8<=140737488355328 /\
 q69_.L1 ((bAnd .u32 x0 (IntKind.wrap .u32 (x0-1)))) ((z0++[(tz32 x0)])) φ)):L1 x0 z0 φ:=
 mIn <|
 Ael 3 h Ae1 Ae0 (fun h=>
 h.elim fun h1 h=>
 As2 6 (show Ret env 57 [.lit (.int .u32 x0)] (.lit (.int .i64 ((tz32 x0)))) [] from Bcw (by kernel_rfl) h1) <|
 mApp 1 (eI .i64) z0 ([(tz32 x0)]) h fun h=>
 mFin 9 h) fun h=>
 mRet 7 h
theorem enter (x0:Int) (φ:List Int->Prop) (h :
 q69_.L1 x0 ([]) φ):∃ r,φ r/\C x0 r:=
 mEnt (fd:=Tryz.f23) (body:=B) (V:=W) (res:=res) <|
 mFin 6 h
end q69_
namespace q70_
noncomputable def B:Code:=(Tryz.f18.body).getD .skip
def W:List Nat:=[0,2,3,4,11]
def res (r:Int):D×List D:=(.lit (.int .u32 r),[])
def C (x0 r:Int):Prop:=Ret env 18 [.lit (.int .i64 x0)] (res r).1 (res r).2
def L1 (x0 z0 z1:Int) (φ:Int->Prop):Prop:=Pt env 18 W B [1,1,0,1,0] [(0,.lit (.int .i64 x0)),(3,.lit (.int .u32 z0)),(4,.lit (.int .i64 z1))] (Lv env 18 Tryz.f18 1 res φ)
theorem L1_step (x0 z0 z1:Int) (φ:Int->Prop) (h :
 (if z1<x0 then
 (if z1<32 then
 0<=z1 /\
 q70_.L1 x0 ((bOr .u32 z0 (shlw .u32 1 z1))) ((IntKind.wrap .i64 (z1+1))) φ
 else
 φ z0)
 else
 φ z0)):L1 x0 z0 z1 φ:=
 mIn <|
 mAsk 4 h dT dF (fun h=>
 mAsk 2 h dT dF (fun h=>
 h.elim fun h1 h=>
 mBi 7 (Ayn (t:=35) (q:=.u32) (q':=.i64) (i1:=1) h1) <|
 mFin 8 h) fun h=>
 mRet 8 h) fun h=>
 mRet 11 h
theorem enter (x0:Int) (φ:Int->Prop) (h :
 q70_.L1 x0 0 0 φ):∃ r,φ r/\C x0 r:=
 mEnt (fd:=Tryz.f18) (body:=B) (V:=W) (res:=res) <|
 mFin 9 h
end q70_
namespace q90_
noncomputable def B:Code:=(Tryz.f83.body).getD .skip
def W:List Nat:=[0,1,4,5,6,11]
def res (r:List Int):D×List D:=(.own (r.map (eI .u8)),[])
def C (x1:Int) (k0_0 r:List Int):Prop:=Ret env 83 [.own (k0_0.map (eI .u8)),.lit (.int .i64 x1)] (res r).1 (res r).2
def L1 (k0_0:List Int) (z0 z1:Int) (φ:List Int->Prop):Prop:=Pt env 83 W B [1,1,0,1,0] [(0,.own (k0_0.map (eI .u8))),(5,.lit (.int .u64 z0)),(6,.lit (.int .i64 z1))] (Lv env 83 Tryz.f83 2 res φ)
theorem L1_step (k0_0:List Int) (z0 z1:Int) (φ:List Int->Prop) (h :
 (if 0<=z1 then
 0<=z1 /\
 (k0_0.length+1)*1<=140737488355328 /\
 q90_.L1 ((k0_0++[(IntKind.wrap .u8 (shrw .u64 z0 z1))])) z0 ((IntKind.wrap .i64 (z1-8))) φ
 else
 φ k0_0)):L1 k0_0 z0 z1 φ:=
 mIn <|
 mAsk 3 h dT dF (fun h=>
 h.elim fun h1 h=>
 mBi 7 (At0 (t:=122) (q:=.u64) (q':=.i64) (i1:=z0) h1) <|
 mApp 2 (eI .u8) k0_0 ([(IntKind.wrap .u8 (shrw .u64 z0 z1))]) h fun h=>
 mFin 7 h) fun h=>
 mRet 7 h
theorem enter (x1:Int) (k0_0:List Int) (φ:List Int->Prop) (h :
 q90_.L1 k0_0 ((bXor .u64 (IntKind.wrap .u64 x1) 9223372036854775808)) 56 φ):∃ r,φ r/\C x1 k0_0 r:=
 mEnt (fd:=Tryz.f83) (body:=B) (V:=W) (res:=res) <|
 mFin 12 h
end q90_
namespace q98_
noncomputable def B:Code:=(Tryz.f53.body).getD .skip
def W:List Nat:=[0,1,2,3,4,5,8,14,15,22,26,27,28,41]
def res (r:ByteArray×Int):D×List D:=(.tup [.lit (.string r.1),.lit (.int .i64 r.2)],[])
def C (x0:api_Value) (r:ByteArray×Int):Prop:=Ret env 53 [.agg [.lit (.int .i64 x0.Kind),.lit (.int .i64 x0.Num),.lit (.string x0.Str)]] (res r).1 (res r).2
def L2 (x0:api_Value) (z0:Bool) (φ:ByteArray×Int->Prop):Prop:=Pt env 53 W B [1,1,1,0,1,0,1,0] [(0,.agg [.lit (.int .i64 x0.Kind),.lit (.int .i64 x0.Num),.lit (.string x0.Str)]),(1,.box [.lit (.int .i64 x0.Kind),.lit (.int .i64 x0.Num),.lit (.string x0.Str)]),(4,.own (([(IntKind.wrap .u8 x0.Kind)]).map (eI .u8))),(14,.lit (.int .i64 x0.Kind)),(15,.lit (.bool z0))] (Lv env 53 Tryz.f53 1 res φ)
def L3 (x0:api_Value) (φ:ByteArray×Int->Prop):Prop:=Pt env 53 W B [1,1,1,0,1,0,1,1,0] [(0,.agg [.lit (.int .i64 x0.Kind),.lit (.int .i64 x0.Num),.lit (.string x0.Str)]),(1,.box [.lit (.int .i64 x0.Kind),.lit (.int .i64 x0.Num),.lit (.string x0.Str)]),(4,.own (([(IntKind.wrap .u8 x0.Kind)]).map (eI .u8))),(14,.lit (.int .i64 x0.Kind))] (Lv env 53 Tryz.f53 1 res φ)
def L1 (x0:api_Value) (z0:List Int) (z1:Int) (φ:ByteArray×Int->Prop):Prop:=Pt env 53 W B [1,1,1,0,1,0,1,1,1,0,0,1,0] [(0,.agg [.lit (.int .i64 x0.Kind),.lit (.int .i64 x0.Num),.lit (.string x0.Str)]),(1,.box [.lit (.int .i64 x0.Kind),.lit (.int .i64 x0.Num),.lit (.string x0.Str)]),(4,.own (z0.map (eI .u8))),(26,.lit (.int .i64 ((Ag6 x0.Str)))),(27,.lit (.int .i64 z1))] (Lv env 53 Tryz.f53 1 res φ)
def L4 (x0:api_Value) (z0:List Int) (z1:Int) (φ:ByteArray×Int->Prop):Prop:=Pt env 53 W B [1,1,1,0,1,0,1,1,1,0,0,1,0,0,1,1,1] [(0,.agg [.lit (.int .i64 x0.Kind),.lit (.int .i64 x0.Num),.lit (.string x0.Str)]),(1,.box [.lit (.int .i64 x0.Kind),.lit (.int .i64 x0.Num),.lit (.string x0.Str)]),(4,.own (z0.map (eI .u8))),(26,.lit (.int .i64 ((Ag6 x0.Str)))),(27,.lit (.int .i64 z1))] (Lv env 53 Tryz.f53 1 res φ)
theorem L2_step (x0:api_Value) (z0:Bool) (φ:ByteArray×Int->Prop) (h :
 ∃ r2:List Int,q90_.C x0.Num ([(IntKind.wrap .u8 x0.Kind)]) r2 /\
 (∀ x∈r2,0<=x/\x<256) /\
 φ (((Am9 r2),0))):L2 x0 z0 φ:=
 mIn <|
 mCal 4 h (fun _ h=>h) (hf:=(fun _=>Ab4 (Abh (e:=(eI .u8)) (fun _=>rfl)) rfl)) fun r2 _ h=>
 h.elim fun h3 h=>
 mVl 4 (Aop (s:=101) (t:=9) (et:=5) (x:=(.tmp 49)) (d:=.alias 4 []) (l:=r2) (by kernel_rfl) (by kernel_rfl) (Afm (by kernel_rfl)) (by kernel_rfl) (by kernel_rfl) (by kernel_rfl) h3) <|
 mRet 3 h
theorem L3_step (x0:api_Value) (φ:ByteArray×Int->Prop) (h :
 (if x0.Kind=2 then
 q98_.L1 x0 ([(IntKind.wrap .u8 x0.Kind)]) 0 φ
 else
 (∀ x∈([(IntKind.wrap .u8 x0.Kind)]),0<=x/\x<256) /\
 φ (((Am9 [(IntKind.wrap .u8 x0.Kind)]),0)))):L3 x0 φ:=
 mIn <|
 mCon 4 h Aaw Aav (fun h=>
 mFin 6 h) fun h=>
 h.elim fun h4 h=>
 mVl 3 (Aop (s:=101) (t:=9) (et:=5) (x:=(.tmp 49)) (d:=.alias 4 []) (l:=[(IntKind.wrap .u8 x0.Kind)]) (by kernel_rfl) (by kernel_rfl) (Afm (by kernel_rfl)) (by kernel_rfl) (by kernel_rfl) (by kernel_rfl) h4) <|
 mRet 3 h
theorem L1_step (x0:api_Value) (z0:List Int) (z1:Int) (φ:ByteArray×Int->Prop) (h :
 (if z1<(Ag6 x0.Str) then
 ∃ b5,((0:Int)<=z1/\x0.Str[(z1).toNat]? = some b5) /\
 (z0.length+1)*1<=140737488355328 /\
 ∃ b9,((0:Int)<=z1/\x0.Str[(z1).toNat]? = some b9) /\
 (if (u8i b9)=0 then
 (((z0++[(u8i b5)])).length+1)*1<=140737488355328 /\
 q98_.L4 x0 (((z0++[(u8i b5)])++[255])) z1 φ
 else
 q98_.L4 x0 ((z0++[(u8i b5)])) z1 φ)
 else
 (z0.length+2)*1<=140737488355328 /\
 (∀ x∈((z0++[0,1])),0<=x/\x<256) /\
 φ (((Am9 (z0++[0,1])),0)))):L1 x0 z0 z1 φ:=
 mIn <|
 mAsk 2 h dT dF (fun h=>
 mSt 12 h fun b5 h=>
 mApp 1 (eI .u8) z0 ([(u8i b5)]) h fun h=>
 mSt 6 h fun b9 h=>
 mAsk 0 h Aaw Aav (fun h=>
 mApp 5 (eI .u8) ((z0++[(u8i b5)])) ([255]) h fun h=>
 mFin 2 h) fun h=>
 mFin 3 h) fun h=>
 mApp 6 (eI .u8) z0 ([0,1]) h fun h=>
 h.elim fun h14 h=>
 mVl 4 (Aop (s:=101) (t:=9) (et:=5) (x:=(.tmp 49)) (d:=.alias 4 []) (l:=(z0++[0,1])) (by kernel_rfl) (by kernel_rfl) (Afm (by kernel_rfl)) (by kernel_rfl) (by kernel_rfl) (by kernel_rfl) h14) <|
 mRet 3 h
theorem L4_step (x0:api_Value) (z0:List Int) (z1:Int) (φ:ByteArray×Int->Prop) (h :
 q98_.L1 x0 z0 ((IntKind.wrap .i64 (z1+1))) φ):L4 x0 z0 z1 φ:=
 mIn <|
 mFin 4 h
theorem enter (x0:api_Value) (φ:ByteArray×Int->Prop) (h :
 ∃ r1:Bool,q93_.C x0 r1 /\
 (if r1=true then
 (if x0.Kind=1 then
 (if x0.Kind=1 then
 q98_.L2 x0 ((x0.Kind == 1)) φ
 else
 q98_.L3 x0 φ)
 else
 (if x0.Kind=3 then
 q98_.L2 x0 ((x0.Kind == 3)) φ
 else
 q98_.L3 x0 φ))
 else
 φ (((⟨#[]⟩:ByteArray),1)))):∃ r,φ r/\C x0 r:=
 mEnt (fd:=Tryz.f53) (body:=B) (V:=W) (res:=res) <|
 Abv 7 h (fun _ h=>h) (fun _ h=>
 mCon 19 h Aaw Aav (fun h=>
 mCon 1 h Aaw Aav (fun h=>
 mFin 0 h) fun h=>
 mFin 0 h) fun h=>
 mCon 4 h Aaw Aav (fun h=>
 mFin 0 h) fun h=>
 mFin 0 h) fun _ h=>
 mRet 7 h
end q98_
namespace q84_
noncomputable def B:Code:=(Tryz.f155.body).getD .skip
def W:List Nat:=[0,2]
def res (r:Bool):D×List D:=(.lit (.bool r),[])
def C (x0:Int) (r:Bool):Prop:=Ret env 155 [.lit (.int .i64 x0)] (res r).1 (res r).2
theorem enter (x0:Int) (φ:Bool->Prop) (h :
 φ ((x0 != x0))):∃ r,φ r/\C x0 r:=
 mEnt (fd:=Tryz.f155) (body:=B) (V:=W) (res:=res) <|
 mRet 9 h
end q84_
namespace q71_
noncomputable def B:Code:=(Tryz.f134.body).getD .skip
def W:List Nat:=[0,1,4,5,6,11,12,13,16,19]
def res (r:Int):D×List D:=(.lit (.int .i64 r),[])
def C (x0 x1 r:Int):Prop:=Ret env 134 [.lit (.int .i64 x0),.lit (.int .i64 x1)] (res r).1 (res r).2
theorem enter (x0 x1:Int) (φ:Int->Prop) (h :
 ∃ r1:Bool,q84_.C x0 r1 /\
 ∃ r2:Bool,q84_.C x1 r2 /\
 (if r1=true then
 (if r2=true then
 φ 0
 else
 φ ((-1)))
 else
 (if r2=true then
 φ 1
 else
 (if x0<x1 then
 φ ((-1))
 else
 (if x1<x0 then
 φ 1
 else
 φ 0))))):∃ r,φ r/\C x0 x1 r:=
 mEnt (fd:=Tryz.f134) (body:=B) (V:=W) (res:=res) <|
 mCal 5 h (fun _ h=>h) fun r1 _ h=>
 mCal 4 h (fun _ h=>h) fun r2 _ h=>
 mAsk 3 h id fls (fun h=>
 mAsk 3 h id fls (fun h=>
 mRet 5 h) fun h=>
 mRet 6 h) fun h=>
 mAsk 4 h id fls (fun h=>
 mRet 5 h) fun h=>
 mAsk 6 h dT dF (fun h=>
 mRet 5 h) fun h=>
 mAsk 6 h dT dF (fun h=>
 mRet 5 h) fun h=>
 mRet 6 h
end q71_
namespace q96_
noncomputable def B:Code:=(Tryz.f133.body).getD .skip
def W:List Nat:=[0,2,3,5,6,7,8,9,14]
def res (r:Int):D×List D:=(.lit (.int .i64 r),[])
def C (x0:List Int) (r:Int):Prop:=Ret env 133 [.sl (x0.map (eI .i64))] (res r).1 (res r).2
def L1 (x0:List Int) (z0:Int) (φ:Int->Prop):Prop:=Pt env 133 W B [1,1,0,1,0] [(0,.sl (x0.map (eI .i64))),(3,.lit (.int .i64 0)),(6,.sl (x0.map (eI .i64))),(7,.lit (.int .i64 ((x0.length:Int)))),(8,.lit (.int .i64 z0))] (Lv env 133 Tryz.f133 1 res φ)
theorem L1_step (x0:List Int) (z0:Int) (φ:Int->Prop) (h :
 (if z0<(x0.length:Int) then
 ∃ a1,lget x0 z0=some a1 /\
 (if a1=0 then
 q96_.L1 x0 ((IntKind.wrap .i64 (z0+1))) φ
 else
 φ a1)
 else
 φ 0)):L1 x0 z0 φ:=
 mIn <|
 mAsk 2 h dT dF (fun h=>
 mIx 4 (eI .i64) h fun a1 h2 h=>
 Ael 6 h Ae1 Ae0 (fun h=>
 mRet 6 h) fun h=>
 mFin 7 h) fun h=>
 mRet 7 h
theorem enter (x0:List Int) (φ:Int->Prop) (h :
 q96_.L1 x0 0 φ):∃ r,φ r/\C x0 r:=
 mEnt (fd:=Tryz.f133) (body:=B) (V:=W) (res:=res) <|
 mLen 8 (eI .i64) x0 <|
 mFin 2 h
end q96_
namespace q32_
noncomputable def B:Code:=(Tryz.f158.body).getD .skip
def W:List Nat:=[0,1,4]
def res (r:Int):D×List D:=(.lit (.int .i64 r),[])
def C (x0 x1:ByteArray) (r:Int):Prop:=Ret env 158 [.lit (.string x0),.lit (.string x1)] (res r).1 (res r).2
theorem enter (x0 x1:ByteArray) (φ:Int->Prop) (h :
 φ ((bcmp x0 x1))):∃ r,φ r/\C x0 x1 r:=
 mEnt (fd:=Tryz.f158) (body:=B) (V:=W) (res:=res) <|
 As2 6 (show Ret env 164 [.lit (.string x0),.lit (.string x1)] (.lit (.int .i64 ((bcmp x0 x1)))) [] from Bhi (by kernel_rfl)) <|
 mRet 2 h
end q32_
namespace q72_
noncomputable def B:Code:=(Tryz.f138.body).getD .skip
def W:List Nat:=[0,1,4]
def res (r:Int):D×List D:=(.lit (.int .i64 r),[])
def C (x0 x1:ByteArray) (r:Int):Prop:=Ret env 138 [.lit (.string x0),.lit (.string x1)] (res r).1 (res r).2
theorem enter (x0 x1:ByteArray) (φ:Int->Prop) (h :
 ∃ r1:Int,q32_.C x0 x1 r1 /\
 φ r1):∃ r,φ r/\C x0 x1 r:=
 mEnt (fd:=Tryz.f138) (body:=B) (V:=W) (res:=res) <|
 mCal 6 h (fun _ h=>h) fun r1 _ h=>
 mRet 2 h
end q72_
namespace q85_
noncomputable def B:Code:=(Tryz.f109.body).getD .skip
def W:List Nat:=[0,1,2,3,4]
def res (r:Int):D×List D:=(.lit (.int .i64 r),[])
def C (x0 x1:api_Value) (r:Int):Prop:=Ret env 109 [.agg [.lit (.int .i64 x0.Kind),.lit (.int .i64 x0.Num),.lit (.string x0.Str)],.agg [.lit (.int .i64 x1.Kind),.lit (.int .i64 x1.Num),.lit (.string x1.Str)]] (res r).1 (res r).2
theorem enter (x0 x1:api_Value) (φ:Int->Prop) (h :
 ∃ r1:Int,q71_.C x0.Kind x1.Kind r1 /\
 ∃ r2:Int,q49_.C x0.Num x1.Num r2 /\
 ∃ r3:Int,q72_.C x0.Str x1.Str r3 /\
 ∃ r4:Int,q96_.C ([r1,r2,r3]) r4 /\
 φ r4):∃ r,φ r/\C x0 x1 r:=
 mEnt (fd:=Tryz.f109) (body:=B) (V:=W) (res:=res) <|
 mLo 10 h (fun _ h=>h) fun r1 _ h=>
 mLo 4 h (fun _ h=>h) fun r2 _ h=>
 mCal 4 h (fun _ h=>h) fun r3 _ h=>
 mCal 1 h (fun _ h=>h) (hr:=by exact (Agr (Aj3 (s:=20) (ps:=[]) (l:=[r1,r2,r3]) (e:=(eI .i64)) (e':=(eI .i64)) (fun _=>rfl) (by kernel_rfl)) Ajm)) fun r4 _ h=>
 mRet 2 h
end q85_
namespace q51_
noncomputable def B:Code:=(Tryz.f70.body).getD .skip
def W:List Nat:=[0,1,4,5,15,26]
def res (r:Bool):D×List D:=(.lit (.bool r),[])
def C (x0 x1:List Int) (r:Bool):Prop:=Ret env 70 [.sl (x0.map (eI .i64)),.sl (x1.map (eI .i64))] (res r).1 (res r).2
def L1 (x0 x1:List Int) (z0:Int) (φ:Bool->Prop):Prop:=Pt env 70 W B [1,0,1,0] [(0,.sl (x0.map (eI .i64))),(1,.sl (x1.map (eI .i64))),(5,.lit (.int .i64 z0))] (Lv env 70 Tryz.f70 2 res φ)
def L2 (x0 x1:List Int) (φ:Bool->Prop):Prop:=Pt env 70 W B [1,1,0] [(0,.sl (x0.map (eI .i64))),(1,.sl (x1.map (eI .i64)))] (Lv env 70 Tryz.f70 2 res φ)
theorem L1_step (x0 x1:List Int) (z0:Int) (φ:Bool->Prop) (h :
 (if z0<(x0.length:Int) then
 (if z0<(x1.length:Int) then
 ∃ a1,lget x0 z0=some a1 /\
 ∃ a3,lget x1 z0=some a3 /\
 (if a1=a3 then
 q51_.L1 x0 x1 ((IntKind.wrap .i64 (z0+1))) φ
 else
 φ ((decide (a1<a3))))
 else
 q51_.L2 x0 x1 φ)
 else
 q51_.L2 x0 x1 φ)):L1 x0 x1 z0 φ:=
 mIn <|
 mLen 4 (eI .i64) x0 <|
 mAsk 0 h dT dF (fun h=>
 mLen 3 (eI .i64) x1 <|
 mAsk 0 h dT dF (fun h=>
 mIx 7 (eI .i64) h fun a1 h2 h=>
 mIx 3 (eI .i64) h fun a3 h4 h=>
 Ael 1 h Ae1 Ae0 (fun h=>
 mIxf 5 (eI .i64) h2 <|
 mIxf 3 (eI .i64) h4 <|
 mRet 4 h) fun h=>
 mFin 8 h) fun h=>
 mFin 4 h) fun h=>
 mFin 9 h
theorem L2_step (x0 x1:List Int) (φ:Bool->Prop) (h :
 φ ((decide ((x0.length:Int)<(x1.length:Int))))):L2 x0 x1 φ:=
 mIn <|
 mLen 2 (eI .i64) x0 <|
 mLen 1 (eI .i64) x1 <|
 mRet 3 h
theorem enter (x0 x1:List Int) (φ:Bool->Prop) (h :
 q51_.L1 x0 x1 0 φ):∃ r,φ r/\C x0 x1 r:=
 mEnt (fd:=Tryz.f70) (body:=B) (V:=W) (res:=res) <|
 mFin 6 h
end q51_
namespace q77_
noncomputable def B:Code:=(Tryz.f29.body).getD .skip
def W:List Nat:=[0,1,4,5,6,10,28,50]
def res (r:List (List Int)):D×List D:=(.own (r.map (eSl (eI .i64))),[])
def C (x1:List Int) (k0_0 r:List (List Int)):Prop:=Ret env 29 [.own (k0_0.map (eSl (eI .i64))),.sl (x1.map (eI .i64))] (res r).1 (res r).2
def L1 (k0_0:List (List Int)) (x1:List Int) (z0:Int) (φ:List (List Int)->Prop):Prop:=Pt env 29 W B [1,0,1,0] [(0,.own (k0_0.map (eSl (eI .i64)))),(1,.sl (x1.map (eI .i64))),(5,.lit (.int .i64 z0))] (Lv env 29 Tryz.f29 2 res φ)
def L2 (k0_0:List (List Int)) (x1:List Int) (z0:Int) (φ:List (List Int)->Prop):Prop:=Pt env 29 W B [1,0,1,0,0,1,1] [(0,.own (k0_0.map (eSl (eI .i64)))),(1,.sl (x1.map (eI .i64))),(5,.lit (.int .i64 z0))] (Lv env 29 Tryz.f29 2 res φ)
def L3 (z0:List (List Int)) (z1:Int) (φ:List (List Int)->Prop):Prop:=Pt env 29 W B [1,1,1,0,1,0] [(0,.own (z0.map (eSl (eI .i64)))),(6,.lit (.int .i64 z1))] (Lv env 29 Tryz.f29 2 res φ)
theorem L1_step (k0_0:List (List Int)) (x1:List Int) (z0:Int) (φ:List (List Int)->Prop) (h :
 (if z0<(k0_0.length:Int) then
 ∃ a1,lget k0_0 z0=some a1 /\
 ∃ r3:Bool,q51_.C a1 x1 r3 /\
 (if r3=true then
 q77_.L2 k0_0 x1 z0 φ
 else
 ∃ r4:Bool,q51_.C x1 a1 r4 /\
 (if r4=true then
 q77_.L2 k0_0 x1 z0 φ
 else
 φ k0_0))
 else
 (k0_0.length+1)*24<=140737488355328 /\
 q77_.L3 ((k0_0++[x1])) ((IntKind.wrap .i64 (((k0_0++[x1]).length:Int)-1))) φ)):L1 k0_0 x1 z0 φ:=
 mIn <|
 mLen 4 (eSl (eI .i64)) k0_0 <|
 mAsk 0 h dT dF (fun h=>
 mIy 6 (eSl (eI .i64)) h fun a1 h2 h=>
 mLd 0 (eSl (eI .i64)) h2 <|
 Abv 1 h (fun _ h=>h) (fun _ h=>
 mFin 13 h) fun _ h=>
 mIyf 5 (eSl (eI .i64)) h2 <|
 mLd 0 (eSl (eI .i64)) h2 <|
 Abv 0 h (fun _ h=>h) (fun _ h=>
 mFin 5 h) fun _ h=>
 mRet 8 h) fun h=>
 mApp 7 (eSl (eI .i64)) k0_0 ([x1]) h fun h=>
 mLen 4 (eSl (eI .i64)) ((k0_0++[x1])) <|
 mFin 3 h
theorem L2_step (k0_0:List (List Int)) (x1:List Int) (z0:Int) (φ:List (List Int)->Prop) (h :
 q77_.L1 k0_0 x1 ((IntKind.wrap .i64 (z0+1))) φ):L2 k0_0 x1 z0 φ:=
 mIn <|
 mFin 5 h
theorem L3_step (z0:List (List Int)) (z1:Int) (φ:List (List Int)->Prop) (h :
 (if 0<z1 then
 ∃ a6,lget z0 z1=some a6 /\
 ∃ a8,lget z0 ((IntKind.wrap .i64 (z1-1)))=some a8 /\
 ∃ r10:Bool,q51_.C a6 a8 r10 /\
 (if r10=true then
 ∃ a11,lget ((lset z0 z1 a8)) ((IntKind.wrap .i64 (z1-1)))=some a11 /\
 q77_.L3 ((lset (lset z0 z1 a8) (IntKind.wrap .i64 (z1-1)) a6)) ((IntKind.wrap .i64 (z1-1))) φ
 else
 φ z0)
 else
 φ z0)):L3 z0 z1 φ:=
 mIn <|
 mAsk 3 h dT dF (fun h=>
 mIy 3 (eSl (eI .i64)) h fun a6 h7 h=>
 mLd 0 (eSl (eI .i64)) h7 <|
 mIy 3 (eSl (eI .i64)) h fun a8 h9 h=>
 mLd 0 (eSl (eI .i64)) h9 <|
 Abv 0 h (fun _ h=>h) (fun _ h=>
 mIyf 13 (eSl (eI .i64)) h9 <|
 mLd 0 (eSl (eI .i64)) h9 <|
 mIyf 2 (eSl (eI .i64)) h7 <|
 mLd 0 (eSl (eI .i64)) h7 <|
 mIyf 0 (eSl (eI .i64)) h7 <|
 Ae3 0 (eSl (eI .i64)) a8 h7 <|
 mIy 0 (eSl (eI .i64)) h fun a11 h12 h=>
 mSto 0 (eSl (eI .i64)) a6 h12 <|
 mFin 6 h) fun _ h=>
 mRet 8 h) fun h=>
 mRet 19 h
theorem enter (x1:List Int) (k0_0:List (List Int)) (φ:List (List Int)->Prop) (h :
 q77_.L1 k0_0 x1 0 φ):∃ r,φ r/\C x1 k0_0 r:=
 mEnt (fd:=Tryz.f29) (body:=B) (V:=W) (res:=res) <|
 mFin 6 h
end q77_
namespace q86_
noncomputable def B:Code:=(Tryz.f30.body).getD .skip
def W:List Nat:=[0,2,4,5,8,11,14,17,20,23,26,29,32,35]
def res (r:api_Value):D×List D:=(.agg [.lit (.int .i64 r.Kind),.lit (.int .i64 r.Num),.lit (.string r.Str)],[])
def C (x0:Int) (r:api_Value):Prop:=Ret env 30 [.lit (.int .u8 x0)] (res r).1 (res r).2
theorem enter (x0:Int) (φ:api_Value->Prop) (h :
 (if (Int.tmod x0 12)=0 then
 φ ((⟨1,0,(⟨#[]⟩:ByteArray)⟩:api_Value))
 else
 (if (Int.tmod x0 12)=1 then
 φ ((⟨1,1,(⟨#[]⟩:ByteArray)⟩:api_Value))
 else
 (if (Int.tmod x0 12)=2 then
 φ ((⟨1,2,(⟨#[]⟩:ByteArray)⟩:api_Value))
 else
 (if (Int.tmod x0 12)=3 then
 φ ((⟨0,0,(⟨#[]⟩:ByteArray)⟩:api_Value))
 else
 (if (Int.tmod x0 12)=4 then
 φ ((⟨2,0,(⟨#[97]⟩:ByteArray)⟩:api_Value))
 else
 (if (Int.tmod x0 12)=5 then
 φ ((⟨2,0,(⟨#[98]⟩:ByteArray)⟩:api_Value))
 else
 (if (Int.tmod x0 12)=6 then
 φ ((⟨2,0,(⟨#[]⟩:ByteArray)⟩:api_Value))
 else
 (if (Int.tmod x0 12)=7 then
 φ ((⟨3,1,(⟨#[]⟩:ByteArray)⟩:api_Value))
 else
 (if (Int.tmod x0 12)=8 then
 φ ((⟨1,(-1),(⟨#[]⟩:ByteArray)⟩:api_Value))
 else
 (if (Int.tmod x0 12)=9 then
 φ ((⟨2,0,(⟨#[97,98]⟩:ByteArray)⟩:api_Value))
 else
 (if (Int.tmod x0 12)=10 then
 φ ((⟨3,2,(⟨#[]⟩:ByteArray)⟩:api_Value))
 else
 φ ((⟨1,7,(⟨#[]⟩:ByteArray)⟩:api_Value)))))))))))))):∃ r,φ r/\C x0 r:=
 mEnt (fd:=Tryz.f30) (body:=B) (V:=W) (res:=res) <|
 mCon 11 h Aaw Aav (fun h=>
 mRet 4 h) fun h=>
 mCon 4 h Aaw Aav (fun h=>
 mRet 4 h) fun h=>
 mCon 4 h Aaw Aav (fun h=>
 mRet 4 h) fun h=>
 mCon 4 h Aaw Aav (fun h=>
 mRet 4 h) fun h=>
 mCon 4 h Aaw Aav (fun h=>
 mRet 4 h) fun h=>
 mCon 4 h Aaw Aav (fun h=>
 mRet 4 h) fun h=>
 mCon 4 h Aaw Aav (fun h=>
 mRet 4 h) fun h=>
 mCon 4 h Aaw Aav (fun h=>
 mRet 4 h) fun h=>
 mCon 4 h Aaw Aav (fun h=>
 mRet 4 h) fun h=>
 mCon 4 h Aaw Aav (fun h=>
 mRet 4 h) fun h=>
 mCon 4 h Aaw Aav (fun h=>
 mRet 4 h) fun h=>
 mRet 5 h
end q86_
namespace q73_
noncomputable def B:Code:=(Tryz.f12.body).getD .skip
def W:List Nat:=[0,1,2,4,5,6,7,8,9,20,34,44]
def res (r:api_Table):D×List D:=(.agg [.lit (.string r.Name),.own (r.Attrs.map eS),.own (r.Rows.map Acq)],[])
def C (x0:drossref03_Recipe) (x1:Int) (r:api_Table):Prop:=Ret env 12 [.agg [.lit (.int .u8 x0.Attrs),.lit (.int .u8 x0.Gap),.sl (x0.Rows.map (eSl (eI .u8)))],.lit (.int .i64 x1)] (res r).1 (res r).2
def L1 (x0:drossref03_Recipe) (x1:Int) (z0:List api_Row) (z1:Int) (φ:api_Table->Prop):Prop:=Pt env 12 W B [1,1,0,1,0] [(0,.agg [.lit (.int .u8 x0.Attrs),.lit (.int .u8 x0.Gap),.sl (x0.Rows.map (eSl (eI .u8)))]),(1,.lit (.int .i64 x1)),(2,.box [.lit (.int .u8 x0.Attrs),.lit (.int .u8 x0.Gap),.sl (x0.Rows.map (eSl (eI .u8)))]),(4,.box [.lit (.string ((⟨#[]⟩:ByteArray))),.own [],.own []]),(5,.box [.lit (.string ((⟨#[114]⟩:ByteArray))),.own (((List.take (x1.toNat-0) (List.drop 0 [(⟨#[97]⟩:ByteArray),(⟨#[98]⟩:ByteArray),(⟨#[99]⟩:ByteArray),(⟨#[100]⟩:ByteArray),(⟨#[101]⟩:ByteArray),(⟨#[102]⟩:ByteArray),(⟨#[103]⟩:ByteArray),(⟨#[104]⟩:ByteArray)]))).map eS),.own (z0.map Acq)]),(6,.lit (.int .i64 z1))] (Lv env 12 Tryz.f12 2 res φ)
def L2 (x0:drossref03_Recipe) (x1:Int) (z0:List api_Row) (z1 z2:Int) (z3:List api_Value) (z4:Int) (φ:api_Table->Prop):Prop:=Pt env 12 W B [1,1,0,1,0,0,1,0,0,1,0,1,0] [(0,.agg [.lit (.int .u8 x0.Attrs),.lit (.int .u8 x0.Gap),.sl (x0.Rows.map (eSl (eI .u8)))]),(1,.lit (.int .i64 x1)),(2,.box [.lit (.int .u8 x0.Attrs),.lit (.int .u8 x0.Gap),.sl (x0.Rows.map (eSl (eI .u8)))]),(4,.box [.lit (.string ((⟨#[]⟩:ByteArray))),.own [],.own []]),(5,.box [.lit (.string ((⟨#[114]⟩:ByteArray))),.own (((List.take (x1.toNat-0) (List.drop 0 [(⟨#[97]⟩:ByteArray),(⟨#[98]⟩:ByteArray),(⟨#[99]⟩:ByteArray),(⟨#[100]⟩:ByteArray),(⟨#[101]⟩:ByteArray),(⟨#[102]⟩:ByteArray),(⟨#[103]⟩:ByteArray),(⟨#[104]⟩:ByteArray)]))).map eS),.own (z0.map Acq)]),(6,.lit (.int .i64 z1)),(7,.box [.lit (.int .i64 z2),.own (z3.map Aa3)]),(8,.lit (.int .i64 z4))] (Lv env 12 Tryz.f12 2 res φ)
def L3 (x0:drossref03_Recipe) (x1:Int) (z0:List api_Row) (z1 z2:Int) (z3:List api_Value) (z4 a7:Int) (φ:api_Table->Prop):Prop:=Pt env 12 W B [1,1,0,1,0,0,1,0,0,1,0,1,0,0,1,0,0,1,1] [(0,.agg [.lit (.int .u8 x0.Attrs),.lit (.int .u8 x0.Gap),.sl (x0.Rows.map (eSl (eI .u8)))]),(1,.lit (.int .i64 x1)),(2,.box [.lit (.int .u8 x0.Attrs),.lit (.int .u8 x0.Gap),.sl (x0.Rows.map (eSl (eI .u8)))]),(4,.box [.lit (.string ((⟨#[]⟩:ByteArray))),.own [],.own []]),(5,.box [.lit (.string ((⟨#[114]⟩:ByteArray))),.own (((List.take (x1.toNat-0) (List.drop 0 [(⟨#[97]⟩:ByteArray),(⟨#[98]⟩:ByteArray),(⟨#[99]⟩:ByteArray),(⟨#[100]⟩:ByteArray),(⟨#[101]⟩:ByteArray),(⟨#[102]⟩:ByteArray),(⟨#[103]⟩:ByteArray),(⟨#[104]⟩:ByteArray)]))).map eS),.own (z0.map Acq)]),(6,.lit (.int .i64 z1)),(7,.box [.lit (.int .i64 z2),.own (z3.map Aa3)]),(8,.lit (.int .i64 z4)),(9,.lit (.int .u8 a7))] (Lv env 12 Tryz.f12 2 res φ)
theorem L1_step (x0:drossref03_Recipe) (x1:Int) (z0:List api_Row) (z1:Int) (φ:api_Table->Prop) (h :
 (if z1<(x0.Rows.length:Int) then
 q73_.L2 x0 x1 z0 z1 ((IntKind.wrap .i64 (1+(IntKind.wrap .i64 (z1*(IntKind.wrap .i64 (1+(IntKind.wrap .i64 (Int.tmod x0.Gap 3))))))))) ([]) 0 φ
 else
 φ ((⟨(⟨#[114]⟩:ByteArray),(List.take (x1.toNat-0) (List.drop 0 [(⟨#[97]⟩:ByteArray),(⟨#[98]⟩:ByteArray),(⟨#[99]⟩:ByteArray),(⟨#[100]⟩:ByteArray),(⟨#[101]⟩:ByteArray),(⟨#[102]⟩:ByteArray),(⟨#[103]⟩:ByteArray),(⟨#[104]⟩:ByteArray)])),z0⟩:api_Table)))):L1 x0 x1 z0 z1 φ:=
 mIn <|
 mLen 5 (eSl (eI .u8)) x0.Rows <|
 mAsk 0 h dT dF (fun h=>
 mFin 19 h) fun h=>
 mRet 7 h
theorem L2_step (x0:drossref03_Recipe) (x1:Int) (z0:List api_Row) (z1 z2:Int) (z3:List api_Value) (z4:Int) (φ:api_Table->Prop) (h :
 (if z4<x1 then
 ∃ a5,lget x0.Rows z1=some a5 /\
 (if z4<(a5.length:Int) then
 ∃ a7,lget a5 z4=some a7 /\
 q73_.L3 x0 x1 z0 z1 z2 z3 z4 a7 φ
 else
 q73_.L3 x0 x1 z0 z1 z2 z3 z4 0 φ)
 else
 (z0.length+1)*32<=140737488355328 /\
 q73_.L1 x0 x1 ((z0++[(⟨z2,z3⟩:api_Row)])) ((IntKind.wrap .i64 (z1+1))) φ)):L2 x0 x1 z0 z1 z2 z3 z4 φ:=
 mIn <|
 mAsk 4 h dT dF (fun h=>
 mIx 11 (eSl (eI .u8)) h fun a5 h6 h=>
 mLen 1 (eI .u8) a5 <|
 mAsk 0 h dT dF (fun h=>
 mIxf 6 (eSl (eI .u8)) h6 <|
 mIx 2 (eI .u8) h fun a7 h8 h=>
 mFin 3 h) fun h=>
 mFin 3 h) fun h=>
 mApp 8 Acq z0 ([(⟨z2,z3⟩:api_Row)]) h fun h=>
 mFin 8 h
theorem L3_step (x0:drossref03_Recipe) (x1:Int) (z0:List api_Row) (z1 z2:Int) (z3:List api_Value) (z4 a7:Int) (φ:api_Table->Prop) (h :
 ∃ r10:api_Value,q86_.C a7 r10 /\
 (z3.length+1)*32<=140737488355328 /\
 q73_.L2 x0 x1 z0 z1 z2 ((z3++[r10])) ((IntKind.wrap .i64 (z4+1))) φ):L3 x0 x1 z0 z1 z2 z3 z4 a7 φ:=
 mIn <|
 mLo 4 h (fun _ h=>h) (hf:=(fun _=>Ajg (Adx (Aa2 rfl (Aa2 rfl (Aa2 rfl Ab7)))))) fun r10 _ h=>
 mApp 1 Aa3 z3 ([r10]) h fun h=>
 mFin 8 h
theorem enter (x0:drossref03_Recipe) (x1:Int) (φ:api_Table->Prop) (h :
 0<=x1 /\
 (0<=x1.toNat/\x1.toNat<=([(⟨#[97]⟩:ByteArray),(⟨#[98]⟩:ByteArray),(⟨#[99]⟩:ByteArray),(⟨#[100]⟩:ByteArray),(⟨#[101]⟩:ByteArray),(⟨#[102]⟩:ByteArray),(⟨#[103]⟩:ByteArray),(⟨#[104]⟩:ByteArray)]).length) /\
 0+(x1.toNat-0)<=([(⟨#[97]⟩:ByteArray),(⟨#[98]⟩:ByteArray),(⟨#[99]⟩:ByteArray),(⟨#[100]⟩:ByteArray),(⟨#[101]⟩:ByteArray),(⟨#[102]⟩:ByteArray),(⟨#[103]⟩:ByteArray),(⟨#[104]⟩:ByteArray)]).length /\
 (0+((List.take (x1.toNat-0) (List.drop 0 [(⟨#[97]⟩:ByteArray),(⟨#[98]⟩:ByteArray),(⟨#[99]⟩:ByteArray),(⟨#[100]⟩:ByteArray),(⟨#[101]⟩:ByteArray),(⟨#[102]⟩:ByteArray),(⟨#[103]⟩:ByteArray),(⟨#[104]⟩:ByteArray)]))).length)*16<=140737488355328 /\
 q73_.L1 x0 x1 ([]) 0 φ):∃ r,φ r/\C x0 x1 r:=
 mEnt (fd:=Tryz.f12) (body:=B) (V:=W) (res:=res) <|
 h.elim fun h1 h=>
 h.elim fun h2 h=>
 mVl 8 (Ak2 (s:=11) (ps:=[]) (t:=27) (x:=(.tmp 11)) (lo:=none) (hi:=(some (.tmp 12))) (lo':=none) (hi':=some (x1).toNat) (e:=eS) (l:=[(⟨#[97]⟩:ByteArray),(⟨#[98]⟩:ByteArray),(⟨#[99]⟩:ByteArray),(⟨#[100]⟩:ByteArray),(⟨#[101]⟩:ByteArray),(⟨#[102]⟩:ByteArray),(⟨#[103]⟩:ByteArray),(⟨#[104]⟩:ByteArray)]) (et:=9) (k:=1) (by kernel_rfl) (by kernel_rfl) (Afm (by kernel_rfl)) Ag3 (Ag4 (i:=x1) (q:=.i64) (by kernel_rfl) h1) (by kernel_rfl) (by kernel_rfl) (fun _=>rfl) (by kernel_rfl) h2.1 h2.2) <|
 h.elim fun h3 h=>
 h.elim fun h4 h=>
 mOp 0 (app3 (x:=(.tmp 10)) (y:=(.tmp 13)) (t:=27) (u:=27) (et:=9) (z:=.lit (.string ((⟨#[]⟩:ByteArray)))) (k:=1) (c:=16) (e:=eS) (l:=[]) (m:=(List.take (x1.toNat-0) (List.drop 0 [(⟨#[97]⟩:ByteArray),(⟨#[98]⟩:ByteArray),(⟨#[99]⟩:ByteArray),(⟨#[100]⟩:ByteArray),(⟨#[101]⟩:ByteArray),(⟨#[102]⟩:ByteArray),(⟨#[103]⟩:ByteArray),(⟨#[104]⟩:ByteArray)]))) (by kernel_rfl) (by kernel_rfl) (by kernel_rfl) (by kernel_rfl) (by kernel_rfl) (by kernel_rfl) (Ax0 (s:=11) (ps:=[]) (off:=0) (len:=(x1.toNat-0)) (by kernel_rfl) (An3 (s:=11) (ps:=[]) (l:=[(⟨#[97]⟩:ByteArray),(⟨#[98]⟩:ByteArray),(⟨#[99]⟩:ByteArray),(⟨#[100]⟩:ByteArray),(⟨#[101]⟩:ByteArray),(⟨#[102]⟩:ByteArray),(⟨#[103]⟩:ByteArray),(⟨#[104]⟩:ByteArray)]) (e:=eS) (by kernel_rfl) h3) (fun _=>rfl)) (by kernel_rfl) (by kernel_rfl) (by kernel_rfl) (by kernel_rfl) (fun _=>rfl) h4) <|
 mFin 7 h
end q73_
namespace q58_
noncomputable def B:Code:=(Tryz.f4.body).getD .skip
def W:List Nat:=[0,1,2,4,5,10]
def res (r:api_Table×Bool):D×List D:=(.tup [.agg [.lit (.string r.1.Name),.own (r.1.Attrs.map eS),.own (r.1.Rows.map Acq)],.lit (.bool r.2)],[])
def C (x0:drossref03_Recipe) (x1:Int) (r:api_Table×Bool):Prop:=Ret env 4 [.agg [.lit (.int .u8 x0.Attrs),.lit (.int .u8 x0.Gap),.sl (x0.Rows.map (eSl (eI .u8)))],.lit (.int .i64 x1)] (res r).1 (res r).2
theorem enter (x0:drossref03_Recipe) (x1:Int) (φ:api_Table×Bool->Prop) (h :
 (if x1<(x0.Rows.length:Int) then
 φ (((⟨(⟨#[]⟩:ByteArray),[],[]⟩:api_Table),false))
 else
 ∃ r1:api_Table,q73_.C x0 ((IntKind.wrap .i64 (Int.tmod x0.Attrs 6))) r1 /\
 φ ((r1,true)))):∃ r,φ r/\C x0 x1 r:=
 mEnt (fd:=Tryz.f4) (body:=B) (V:=W) (res:=res) <|
 mLen 8 (eSl (eI .u8)) x0.Rows <|
 mAsk 1 h dT dF (fun h=>
 mRet 7 h) fun h=>
 mCal 9 h (fun _ h=>h) (hf:=(fun _=>Ab4 (Adx (Aa2 rfl (Aa2 (Abh (e:=eS) (fun _=>rfl)) (Aa2 (Abh (e:=Acq) (fun _=>(Aa2 rfl (Aa2 (Abh (e:=Aa3) (fun _=>rfl)) Ab7)))) Ab7)))) rfl)) fun r1 _ h=>
 mRet 3 h
end q58_
namespace q97_
noncomputable def B:Code:=(Tryz.f110.body).getD .skip
def W:List Nat:=[0,1,3,4,7]
def res (r:api_Value):D×List D:=(.agg [.lit (.int .i64 r.Kind),.lit (.int .i64 r.Num),.lit (.string r.Str)],[])
def C (x0:List api_Row) (x1:api_Term) (r:api_Value):Prop:=Ret env 110 [.sl (x0.map Aa1),.agg [.lit (.int .i64 x1.Var),.lit (.int .i64 x1.Attr),.lit (.int .i64 x1.Value.Kind),.lit (.int .i64 x1.Value.Num),.lit (.string x1.Value.Str)]] (res r).1 (res r).2
theorem enter (x0:List api_Row) (x1:api_Term) (φ:api_Value->Prop) (h :
 (if x1.Var=0 then
 φ x1.Value
 else
 ∃ a1,lget x0 ((IntKind.wrap .i64 (x1.Var-1)))=some a1 /\
 ∃ a3,lget a1.Values x1.Attr=some a3 /\
 φ a3)):∃ r,φ r/\C x0 x1 r:=
 mEnt (fd:=Tryz.f110) (body:=B) (V:=W) (res:=res) <|
 mAsk 7 h Aaw Aav (fun h=>
 mRet 7 h) fun h=>
 mIx 8 Aa1 h fun a1 h2 h=>
 mIx 4 Aa3 h fun a3 h4 h=>
 mRet 3 h
end q97_
namespace q59_
noncomputable def B:Code:=(Tryz.f91.body).getD .skip
def W:List Nat:=[0,1,4,6,7,8,9,10,11,12,25,26,30,34,38,43]
def res (r:Bool):D×List D:=(.lit (.bool r),[])
def C (x0:List api_Row) (x1:List api_Atom) (r:Bool):Prop:=Ret env 91 [.sl (x0.map Aa1),.sl (x1.map Aa6)] (res r).1 (res r).2
def L1 (x0:List api_Row) (x1:List api_Atom) (z0:Int) (φ:Bool->Prop):Prop:=Pt env 91 W B [1,0,1,0] [(0,.sl (x0.map Aa1)),(1,.sl (x1.map Aa6)),(9,.sl (x1.map Aa6)),(10,.lit (.int .i64 ((x1.length:Int)))),(11,.lit (.int .i64 z0))] (Lv env 91 Tryz.f91 2 res φ)
def L2 (x0:List api_Row) (x1:List api_Atom) (z0:Bool) (z1:Int) (φ:Bool->Prop):Prop:=Pt env 91 W B [1,0,1,0,0,1,1,0,0,1,1,1,1,0] [(0,.sl (x0.map Aa1)),(1,.sl (x1.map Aa6)),(8,.lit (.bool z0)),(9,.sl (x1.map Aa6)),(10,.lit (.int .i64 ((x1.length:Int)))),(11,.lit (.int .i64 z1))] (Lv env 91 Tryz.f91 2 res φ)
theorem L1_step (x0:List api_Row) (x1:List api_Atom) (z0:Int) (φ:Bool->Prop) (h :
 (if z0<(x1.length:Int) then
 ∃ a1,lget x1 z0=some a1 /\
 ∃ r3:api_Value,q97_.C x0 a1.Left r3 /\
 ∃ r4:api_Value,q97_.C x0 a1.Right r4 /\
 ∃ r5:Int,q85_.C r3 r4 r5 /\
 (if a1.Op=1 then
 q59_.L2 x0 x1 ((r5 == 0)) z0 φ
 else
 (if a1.Op=2 then
 q59_.L2 x0 x1 ((r5 != 0)) z0 φ
 else
 (if a1.Op=3 then
 q59_.L2 x0 x1 ((decide (r5<0))) z0 φ
 else
 (if a1.Op=4 then
 q59_.L2 x0 x1 ((decide (r5<=0))) z0 φ
 else
 q59_.L2 x0 x1 false z0 φ))))
 else
 φ true)):L1 x0 x1 z0 φ:=
 mIn <|
 mAsk 2 h dT dF (fun h=>
 mIx 4 Aa6 h fun a1 h2 h=>
 mLo 8 h (fun _ h=>h) (hf:=(fun _=>Ajg (Adx (Aa2 rfl (Aa2 rfl (Aa2 rfl Ab7)))))) fun r3 _ h=>
 mCal 3 h (fun _ h=>h) (hf:=(fun _=>Ab4 (Adx (Aa2 rfl (Aa2 rfl (Aa2 rfl Ab7)))) rfl)) fun r4 _ h=>
 mCal 0 h (fun _ h=>h) fun r5 _ h=>
 mCon 13 h Aaw Aav (fun h=>
 mFin 5 h) fun h=>
 mCon 4 h Aaw Aav (fun h=>
 mFin 5 h) fun h=>
 mCon 4 h Aaw Aav (fun h=>
 mFin 5 h) fun h=>
 mCon 4 h Aaw Aav (fun h=>
 mFin 5 h) fun h=>
 mFin 1 h) fun h=>
 mRet 6 h
theorem L2_step (x0:List api_Row) (x1:List api_Atom) (z0:Bool) (z1:Int) (φ:Bool->Prop) (h :
 (if z0=true then
 q59_.L1 x0 x1 ((IntKind.wrap .i64 (z1+1))) φ
 else
 φ false)):L2 x0 x1 z0 z1 φ:=
 mIn <|
 mAsk 1 h id fls (fun h=>
 mFin 8 h) fun h=>
 mRet 6 h
theorem enter (x0:List api_Row) (x1:List api_Atom) (φ:Bool->Prop) (h :
 q59_.L1 x0 x1 0 φ):∃ r,φ r/\C x0 x1 r:=
 mEnt (fd:=Tryz.f91) (body:=B) (V:=W) (res:=res) <|
 mLen 5 Aa6 x1 <|
 mFin 2 h
end q59_
namespace q78_
noncomputable def B:Code:=(Tryz.f118.body).getD .skip
def W:List Nat:=[0,1,4]
def res (r:Bool):D×List D:=(.lit (.bool r),[])
def C (x0 x1:Int) (r:Bool):Prop:=Ret env 118 [.lit (.int .i64 x0),.lit (.int .i64 x1)] (res r).1 (res r).2
theorem enter (x0 x1:Int) (φ:Bool->Prop) (h :
 ∃ r1:Bool,q67_.C x0 r1 /\
 (if r1=true then
 ∃ r2:Bool,q67_.C x1 r2 /\
 (if r2=true then
 φ ((decide (x0<x1)))
 else
 φ true)
 else
 φ ((decide (x0<x1))))):∃ r,φ r/\C x0 x1 r:=
 mEnt (fd:=Tryz.f118) (body:=B) (V:=W) (res:=res) <|
 Abv 5 h (fun _ h=>h) (fun _ h=>
 Abv 2 h (fun _ h=>h) (fun _ h=>
 mRet 9 h) fun _ h=>
 mRet 9 h) fun _ h=>
 mRet 12 h
end q78_
namespace q30_
noncomputable def B:Code:=(Tryz.f112.body).getD .skip
def W:List Nat:=[0,1,2,6,7,12,30,1000000]
def res (r:List Int):D×List D:=(.tup [],[.own (r.map (eI .i64))])
def C (x1 x2:Int) (k0_0 r:List Int):Prop:=Ret env 112 [.own (k0_0.map (eI .i64)),.lit (.int .i64 x1),.lit (.int .i64 x2)] (res r).1 (res r).2
def L1 (x1 x2 z0:Int) (k0_0:List Int) (φ:List Int->Prop):Prop:=Pt env 112 W B [1,0] [(0,.alias 1000000 []),(1,.lit (.int .i64 x1)),(2,.lit (.int .i64 x2)),(6,.lit (.int .i64 z0)),(1000000,.own (k0_0.map (eI .i64)))] (Lv env 112 Tryz.f112 3 res φ)
def L2 (x1 x2:Int) (z0 z1:Int) (k0_0:List Int) (φ:List Int->Prop):Prop:=Pt env 112 W B [1,0,0,1,0,0,1,0] [(0,.alias 1000000 []),(1,.lit (.int .i64 x1)),(2,.lit (.int .i64 x2)),(6,.lit (.int .i64 z0)),(7,.lit (.int .i64 z1)),(1000000,.own (k0_0.map (eI .i64)))] (Lv env 112 Tryz.f112 3 res φ)
def L3 (x1 x2 z0:Int) (k0_0:List Int) (φ:List Int->Prop):Prop:=Pt env 112 W B [1,0,0,1,1] [(0,.alias 1000000 []),(1,.lit (.int .i64 x1)),(2,.lit (.int .i64 x2)),(6,.lit (.int .i64 z0)),(1000000,.own (k0_0.map (eI .i64)))] (Lv env 112 Tryz.f112 3 res φ)
theorem L1_step (x1 x2 z0:Int) (k0_0:List Int) (φ:List Int->Prop) (h :
 (if z0<x2 then
 q30_.L2 x1 x2 z0 z0 k0_0 φ
 else
 φ k0_0)):L1 x1 x2 z0 k0_0 φ:=
 mIn <|
 mAsk 4 h dT dF (fun h=>
 mFin 7 h) fun h=>
 mRet 2 h
theorem L2_step (x1 x2:Int) (z0 z1:Int) (k0_0:List Int) (φ:List Int->Prop) (h :
 (if x1<z1 then
 ∃ a1,lget k0_0 z1=some a1 /\
 ∃ a3,lget k0_0 ((IntKind.wrap .i64 (z1-1)))=some a3 /\
 ∃ r5:Bool,q78_.C a1 a3 r5 /\
 (if r5=true then
 ∃ a6,lget ((lset k0_0 z1 a3)) ((IntKind.wrap .i64 (z1-1)))=some a6 /\
 q30_.L2 x1 x2 z0 ((IntKind.wrap .i64 (z1-1))) ((lset (lset k0_0 z1 a3) (IntKind.wrap .i64 (z1-1)) a1)) φ
 else
 q30_.L3 x1 x2 z0 k0_0 φ)
 else
 q30_.L3 x1 x2 z0 k0_0 φ)):L2 x1 x2 z0 z1 k0_0 φ:=
 mIn <|
 mAsk 4 h dT dF (fun h=>
 mIy 3 (eI .i64) h fun a1 h2 h=>
 mLd 0 (eI .i64) h2 <|
 mIy 3 (eI .i64) h fun a3 h4 h=>
 mLd 0 (eI .i64) h4 <|
 Abv 0 h (fun _ h=>h) (fun _ h=>
 mIyf 13 (eI .i64) h4 <|
 mLd 0 (eI .i64) h4 <|
 mIyf 2 (eI .i64) h2 <|
 mLd 0 (eI .i64) h2 <|
 mIyf 0 (eI .i64) h2 <|
 Bl4 0 (eI .i64) a3 h2 <|
 mIy 0 (eI .i64) h fun a6 h7 h=>
 mSto 0 (eI .i64) a1 h7 <|
 mFin 6 h) fun _ h=>
 mFin 4 h) fun h=>
 mFin 15 h
theorem L3_step (x1 x2 z0:Int) (k0_0:List Int) (φ:List Int->Prop) (h :
 q30_.L1 x1 x2 ((IntKind.wrap .i64 (z0+1))) k0_0 φ):L3 x1 x2 z0 k0_0 φ:=
 mIn <|
 mFin 5 h
theorem enter (x1 x2:Int) (k0_0:List Int) (φ:List Int->Prop) (h :
 q30_.L1 x1 x2 ((IntKind.wrap .i64 (x1+1))) k0_0 φ):∃ r,φ r/\C x1 x2 k0_0 r:=
 mEnt (fd:=Tryz.f112) (body:=B) (V:=W) (res:=res) <|
 mFin 5 h
end q30_
namespace q35_
noncomputable def B:Code:=(Tryz.f95.body).getD .skip
def W:List Nat:=[0,1,2,3,8,9,10,11,12,13,14,15,16,17,18,23,29,35,50,68,72,87,113,1000000]
def res (r:List Int):D×List D:=(.tup [],[.own (r.map (eI .i64))])
def C (x1 x2 x3:Int) (k0_0 r:List Int):Prop:=Ret env 95 [.own (k0_0.map (eI .i64)),.lit (.int .i64 x1),.lit (.int .i64 x2),.lit (.int .i64 x3)] (res r).1 (res r).2
def L1 (x1 x2 x3:Int) (k0_0:List Int) (φ:List Int->Prop):Prop:=Pt env 95 W B [1,1,0] [(0,.alias 1000000 []),(1,.lit (.int .i64 x1)),(2,.lit (.int .i64 x2)),(3,.lit (.int .i64 x3)),(8,.lit (.bool true)),(9,.lit (.bool true)),(1000000,.own (k0_0.map (eI .i64)))] (Lv env 95 Tryz.f95 4 res φ)
theorem L1_step (x1 x2 x3:Int) (k0_0:List Int) (φ:List Int->Prop) (h :
 (if (IntKind.wrap .i64 (x2-x1))<=12 then
 ∃ r1:List Int,q30_.C x1 x2 k0_0 r1 /\
 φ r1
 else
 (if x3=0 then
 False
 else
 False))):L1 x1 x2 x3 k0_0 φ:=
 mIn <|
 mAsk 9 h dT dF (fun h=>
 mCal 6 h (fun _ h=>h) (hf:=(fun _=>Atw (Af8 Ab7) (Abh (e:=(eI .i64)) (fun _=>rfl)))) fun r1 _ h=>
 mRet 1 h) fun h=>
 mAsk 5 h Aaw Aav (fun h=>
 h.elim) fun h=>
 h.elim
theorem enter (x1 x2 x3:Int) (k0_0:List Int) (φ:List Int->Prop) (h :
 q35_.L1 x1 x2 x3 k0_0 φ):∃ r,φ r/\C x1 x2 x3 k0_0 r:=
 mEnt (fd:=Tryz.f95) (body:=B) (V:=W) (res:=res) <|
 mFin 6 h
end q35_
namespace q37_
noncomputable def B:Code:=(Tryz.f67.body).getD .skip
def W:List Nat:=[0,2,1000000]
def res (r:List Int):D×List D:=(.tup [],[.own (r.map (eI .i64))])
def C (k0_0 r:List Int):Prop:=Ret env 67 [.own (k0_0.map (eI .i64))] (res r).1 (res r).2
theorem enter (k0_0:List Int) (φ:List Int->Prop) (h :
 ∃ r1:Int,q83_.C ((IntKind.wrap .u64 (k0_0.length:Int))) r1 /\
 ∃ r2:List Int,q35_.C 0 ((k0_0.length:Int)) r1 k0_0 r2 /\
 φ r2):∃ r,φ r/\C k0_0 r:=
 mEnt (fd:=Tryz.f67) (body:=B) (V:=W) (res:=res) <|
 mLen 2 (eI .i64) k0_0 <|
 mCal 7 h (fun _ h=>h) fun r1 _ h=>
 mCal 0 h (fun _ h=>h) (hf:=(fun _=>Atw (Af8 Ab7) (Abh (e:=(eI .i64)) (fun _=>rfl)))) fun r2 _ h=>
 mRet 0 h
end q37_
namespace q79_
noncomputable def B:Code:=(Tryz.f93.body).getD .skip
def W:List Nat:=[0,1,2,3]
def res (r:Bool):D×List D:=(.lit (.bool r),[])
def C (x0:api_Row) (k1_0:Int) (k1_1:List api_Value) (r:Bool):Prop:=Ret env 93 [.agg [.lit (.int .i64 x0.ID),.sl (x0.Values.map Aa3)],.ref [.lit (.int .i64 k1_0),.sl (k1_1.map Aa3)]] (res r).1 (res r).2
theorem enter (x0:api_Row) (k1_0:Int) (k1_1:List api_Value) (φ:Bool->Prop) (h :
 φ ((x0.ID == k1_0))):∃ r,φ r/\C x0 k1_0 k1_1 r:=
 mEnt (fd:=Tryz.f93) (body:=B) (V:=W) (res:=res) <|
 mRet 12 h
end q79_
namespace q25_
noncomputable def B:Code:=(Tryz.f111.body).getD .skip
def W:List Nat:=[0,1,4,5,7,8,9,16]
def res (r:Int):D×List D:=(.lit (.int .i64 r),[])
def C (x0:List api_Row) (k1_0:Int) (k1_1:List api_Value) (r:Int):Prop:=Ret env 111 [.sl (x0.map Aa1),.fn 93 [.ref [.lit (.int .i64 k1_0),.sl (k1_1.map Aa3)]]] (res r).1 (res r).2
def L1 (x0:List api_Row) (k1_0:Int) (k1_1:List api_Value) (z0:Int) (φ:Int->Prop):Prop:=Pt env 111 W B [1,0,1,0] [(0,.sl (x0.map Aa1)),(1,.fn 93 [.ref [.lit (.int .i64 k1_0),.sl (k1_1.map Aa3)]]),(7,.lit (.int .i64 ((x0.length:Int)))),(8,.lit (.int .i64 z0))] (Lv env 111 Tryz.f111 2 res φ)
theorem L1_step (x0:List api_Row) (k1_0:Int) (k1_1:List api_Value) (z0:Int) (φ:Int->Prop) (h :
 (if z0<(x0.length:Int) then
 ∃ a1,lget x0 z0=some a1 /\
 ∃ r3:Bool,q79_.C a1 k1_0 k1_1 r3 /\
 (if r3=true then
 φ z0
 else
 q25_.L1 x0 k1_0 k1_1 ((IntKind.wrap .i64 (z0+1))) φ)
 else
 φ ((-1)))):L1 x0 k1_0 k1_1 z0 φ:=
 mIn <|
 mAsk 2 h dT dF (fun h=>
 mIx 11 Aa1 h fun a1 h2 h=>
 Abv 1 h (fun _ h=>h) (fun _ h=>
 mRet 6 h) fun _ h=>
 mFin 7 h) fun h=>
 mRet 6 h
theorem enter (x0:List api_Row) (k1_0:Int) (k1_1:List api_Value) (φ:Int->Prop) (h :
 q25_.L1 x0 k1_0 k1_1 0 φ):∃ r,φ r/\C x0 k1_0 k1_1 r:=
 mEnt (fd:=Tryz.f111) (body:=B) (V:=W) (res:=res) <|
 mLen 5 Aa1 x0 <|
 mFin 2 h
end q25_
namespace q21_
noncomputable def B:Code:=(Tryz.f92.body).getD .skip
def W:List Nat:=[0,1,4]
def res (r:Bool):D×List D:=(.lit (.bool r),[])
def C (x0:List api_Row) (k1_0:Int) (k1_1:List api_Value) (r:Bool):Prop:=Ret env 92 [.sl (x0.map Aa1),.fn 93 [.ref [.lit (.int .i64 k1_0),.sl (k1_1.map Aa3)]]] (res r).1 (res r).2
theorem enter (x0:List api_Row) (k1_0:Int) (k1_1:List api_Value) (φ:Bool->Prop) (h :
 ∃ r1:Int,q25_.C x0 k1_0 k1_1 r1 /\
 φ ((decide (0<=r1)))):∃ r,φ r/\C x0 k1_0 k1_1 r:=
 mEnt (fd:=Tryz.f92) (body:=B) (V:=W) (res:=res) <|
 mCal 6 h (fun _ h=>h) fun r1 _ h=>
 mRet 3 h
end q21_
namespace q52_
def res (r:List (List Int)×Int):D×List D:=(.tup [.own (r.1.map (eSl (eI .i64))),.lit (.int .i64 r.2)],[])
def C (x0:api_Table) (x1:api_Denial) (r:List (List Int)×Int):Prop:=Ret env 28 [.agg [.lit (.string x0.Name),.sl (x0.Attrs.map eS),.sl (x0.Rows.map Aa1)],.agg [.lit (.int .i64 x1.Vars),.sl (x1.Atoms.map Aa6)]] (res r).1 (res r).2
end q52_
namespace q74_
noncomputable def B:Code:=(Tryz.f80.body).getD .skip
def W:List Nat:=[0,1,2,3,4,6,7,9,17,22,23,24,25,37,41,42,43,44,61]
def res (r:Bool):D×List D:=(.lit (.bool r),[])
def C (x0:api_Partition) (r:Bool):Prop:=Ret env 80 [.agg [.lit (.int .i64 x0.Rows),.sl (x0.Classes.map (eSl (eI .i64)))]] (res r).1 (res r).2
def L1 (x0:api_Partition) (z0:List Bool) (z1 z2:Int) (φ:Bool->Prop):Prop:=Pt env 80 W B [1,1,1,1,0,1,0] [(0,.agg [.lit (.int .i64 x0.Rows),.sl (x0.Classes.map (eSl (eI .i64)))]),(1,.box [.lit (.int .i64 x0.Rows),.sl (x0.Classes.map (eSl (eI .i64)))]),(3,.own (z0.map eB)),(4,.lit (.int .i64 z1)),(22,.sl (x0.Classes.map (eSl (eI .i64)))),(23,.lit (.int .i64 ((x0.Classes.length:Int)))),(24,.lit (.int .i64 z2))] (Lv env 80 Tryz.f80 1 res φ)
def L2 (x0:api_Partition) (z0:List Bool) (a4:Int) (a2:List Int) (z1 z2 z3:Int) (φ:Bool->Prop):Prop:=Pt env 80 W B [1,1,1,1,0,1,0,0,1,1,0,0,1,1,1,1,1,0] [(0,.agg [.lit (.int .i64 x0.Rows),.sl (x0.Classes.map (eSl (eI .i64)))]),(1,.box [.lit (.int .i64 x0.Rows),.sl (x0.Classes.map (eSl (eI .i64)))]),(3,.own (z0.map eB)),(4,.lit (.int .i64 a4)),(6,.sl (a2.map (eI .i64))),(7,.lit (.int .i64 z1)),(22,.sl (x0.Classes.map (eSl (eI .i64)))),(23,.lit (.int .i64 ((x0.Classes.length:Int)))),(24,.lit (.int .i64 z2)),(41,.sl (a2.map (eI .i64))),(42,.lit (.int .i64 ((a2.length:Int)))),(43,.lit (.int .i64 z3))] (Lv env 80 Tryz.f80 1 res φ)
theorem L1_step (x0:api_Partition) (z0:List Bool) (z1 z2:Int) (φ:Bool->Prop) (h :
 (if z2<(x0.Classes.length:Int) then
 ∃ a2,lget x0.Classes z2=some a2 /\
 (if (a2.length:Int)<2 then
 φ false
 else
 ∃ a4,lget a2 0=some a4 /\
 (if a4<=z1 then
 φ false
 else
 q74_.L2 x0 z0 a4 a2 ((-1)) z2 0 φ))
 else
 φ true)):L1 x0 z0 z1 z2 φ:=
 mIn <|
 mAsk 2 h dT dF (fun h=>
 mIx 4 (eSl (eI .i64)) h fun a2 h3 h=>
 mLen 5 (eI .i64) a2 <|
 mAsk 0 h dT dF (fun h=>
 mRet 12 h) fun h=>
 mIx 2 (eI .i64) h fun a4 h5 h=>
 mAsk 2 h dT dF (fun h=>
 mRet 6 h) fun h=>
 mIxf 6 (eI .i64) h5 <|
 mLen 8 (eI .i64) a2 <|
 mFin 2 h) fun h=>
 mRet 6 h
theorem L2_step (x0:api_Partition) (z0:List Bool) (a4:Int) (a2:List Int) (z1 z2 z3:Int) (φ:Bool->Prop) (h :
 (if z3<(a2.length:Int) then
 ∃ a6,lget a2 z3=some a6 /\
 (if a6<=z1 then
 φ false
 else
 (if x0.Rows<=a6 then
 φ false
 else
 ∃ a8,lget z0 a6=some a8 /\
 (if a8=true then
 φ false
 else
 q74_.L2 x0 ((lset z0 a6 true)) a4 a2 a6 z2 ((IntKind.wrap .i64 (z3+1))) φ)))
 else
 q74_.L1 x0 z0 a4 ((IntKind.wrap .i64 (z2+1))) φ)):L2 x0 z0 a4 a2 z1 z2 z3 φ:=
 mIn <|
 mAsk 2 h dT dF (fun h=>
 mIx 4 (eI .i64) h fun a6 h7 h=>
 mAsk 6 h dT dF (fun h=>
 mRet 17 h) fun h=>
 mAsk 4 h dT dF (fun h=>
 mRet 12 h) fun h=>
 mIy 4 eB h fun a8 h9 h=>
 mLdB 0 h9 h (fun h=>
 mRet 6 h) fun h=>
 mIyf 7 eB h9 <|
 mSto 0 eB true h9 <|
 mFin 9 h) fun h=>
 mFin 7 h
theorem enter (x0:api_Partition) (φ:Bool->Prop) (h :
 (if x0.Rows<0 then
 φ false
 else
 (if 1000<x0.Rows then
 φ false
 else
 (0<=x0.Rows/\x0.Rows*1<=281474976710656) /\
 q74_.L1 x0 ((List.replicate x0.Rows.toNat false)) ((-1)) 0 φ))):∃ r,φ r/\C x0 r:=
 mEnt (fd:=Tryz.f80) (body:=B) (V:=W) (res:=res) <|
 mAsk 7 h dT dF (fun h=>
 mRet 10 h) fun h=>
 mAsk 3 h dT dF (fun h=>
 mRet 6 h) fun h=>
 h.elim fun h1 h=>
 mVl 7 (Aqz (t:=113) (x:=(.tmp 19)) (y:=(.tmp 19)) (q:=.i64) (i:=x0.Rows) (et:=4) (z:=.lit (.bool false)) (e:=eB) (a:=false) (k:=1) (by kernel_rfl) (by kernel_rfl) (by kernel_rfl) (by kernel_rfl) (by kernel_rfl) (by kernel_rfl) (by kernel_rfl) (by kernel_rfl) (by kernel_rfl) (by kernel_rfl) h1.1 h1.2) <|
 mLen 8 (eSl (eI .i64)) x0.Classes <|
 mFin 2 h
end q74_
end Go.Own
namespace Go.Own
def Ac2 (rows:Int):Int->List Bool->List Int->Option (List Bool)
 | _,seen,[]=>some seen
 | before,seen,i::r=>if i<=before∨rows<=i∨lget seen i=some true then none else Ac2 rows i (lset seen i true) r
def Ac5 (rows:Int):Int->List Bool->List (List Int)->Bool
 | _,_,[]=>true
 | first,seen,c::cs=>match c with
  | []=>false
  | [_]=>false
  | a::b::r=>if a<=first then false else match Ac2 rows (-1) seen (a::b::r) with
   | none=>false
   | some seen'=>Ac5 rows a seen' cs
def Acf (p:api_Partition):Bool:=if p.Rows<0 then false else if 1000<p.Rows then false else Ac5 p.Rows (-1) (List.replicate p.Rows.toNat false) p.Classes
def Ahv (p:api_Partition):Prop:=p.Classes.length<Big/\∀ c∈p.Classes,c.length<Big
theorem Al3 {rows:Int}:∀ {r:List Int} {b:Int} {s s':List Bool},Ac2 rows b s r=some s'->s'.length=s.length
 | [],_,_,_,h=>by simp [Ac2] at h;rw [h]
 | i::r,b,s,s',h=>by
  simp only [Ac2] at h
  split at h
  ·cases h
  ·have:=Al3 h;rw [this,Abr]
namespace q74_
theorem inner {x0:api_Partition} {a4 y24:Int} {a2:List Int} {φ:Bool->Prop} (hb:a2.length<Big):∀ (r:List Int) (k:Nat) (seen:List Bool) (before:Int),a2.drop k=r->(seen.length:Int)=x0.Rows->-1<=before ->
  (match Ac2 x0.Rows before seen r with
   | none=>φ false
   | some s=>L1 x0 s a4 (IntKind.wrap .i64 (y24+1)) φ)->L2 x0 seen a4 a2 before y24 k φ
 | [],k,seen,before,hd,hs,hbf,h=>by
  apply L2_step;have:=Aar hd;rw [if_neg (by omega)];exact h
 | i::r,k,seen,before,hd,hs,hbf,h=>by
  apply L2_step;have hk:=Aas hd;rw [if_pos (by omega)];refine ⟨i,Aaz hd,?_⟩;simp only [Ac2] at h
  split
  ·rename_i h1;rw [if_pos (.inl h1)] at h;exact h
  ·rename_i h1
   split
   ·rename_i h2;rw [if_pos (.inr (.inl h2))] at h;exact h
   ·rename_i h2;obtain ⟨b,hg⟩:=Afp (l:=seen) (i:=i) (by omega) (by omega);refine ⟨b,hg,?_⟩
    split
    ·rename_i h3;subst h3;rw [if_pos (.inr (.inr hg))] at h;exact h
    ·rename_i h3;have:¬ (i<=before∨x0.Rows<=i∨lget seen i=some true):=by
      rintro (h | h | h)
      ·exact h1 h
      ·exact h2 h
      ·rw [hg] at h;exact h3 (Option.some.inj h)
     rw [if_neg this] at h;rw [Aa4 (by unfold Big at hb;omega)];exact inner hb r (k+1) _ i (Aa8 hd) (by rw [Abr];exact hs) (by omega) h
theorem outer {x0:api_Partition} {φ:Bool->Prop} (hb:Ahv x0):∀ (cs:List (List Int)) (k:Nat) (seen:List Bool) (first:Int),x0.Classes.drop k=cs->(seen.length:Int)=x0.Rows ->
  φ (Ac5 x0.Rows first seen cs)->L1 x0 seen first k φ
 | [],k,seen,first,hd,hs,h=>by
  apply L1_step;have:=Aar hd;rw [if_neg (by omega)];exact h
 | c::cs,k,seen,first,hd,hs,h=>by
  apply L1_step;have hk:=Aas hd;have hc:c∈x0.Classes:=List.mem_of_getElem? (Aae hd);rw [if_pos (by omega)];refine ⟨c,Aaz hd,?_⟩
  match c,hc,h,hd with
  | [],_,h,hd=>simp only [List.length_nil];exact h
  | [_],_,h,hd=>simp only [List.length_singleton];exact h
  | a::b::r,hc,h,hd=>
   rw [if_neg (by simp;omega)];refine ⟨a,by simp [lget],?_⟩;simp only [Ac5] at h
   split
   ·rename_i h1;rw [if_pos h1] at h;exact h
   ·rename_i h1;rw [if_neg h1] at h;refine inner (hb.2 _ hc) (a::b::r) 0 seen (-1) rfl hs (by omega) ?_;cases ho:Ac2 x0.Rows (-1) seen (a::b::r) with
    | none=>rw [ho] at h;exact h
    | some s=>
     rw [ho] at h;simp only at h ⊢;rw [Aa4 (by have:=hb.1;unfold Big at this;omega)];exact outer hb cs (k+1) s a (Aa8 hd) (by rw [Al3 ho];exact hs) h
theorem spec {x0:api_Partition} (hb:Ahv x0):C x0 (Acf x0):=by
 obtain ⟨r,h1,h2⟩:=enter x0 (fun r=>r=Acf x0) (by
  unfold Acf
  split
  ·rfl
  ·split
   ·rfl
   ·refine ⟨by omega,?_⟩
    exact outer hb x0.Classes 0 _ (-1) rfl (by simp;omega) rfl)
 rw [← h1];exact h2
end q74_
def free:List Bool->Nat
 | []=>0
 | b::l=>(if b then 0 else 1)+free l
theorem At5 (n:Nat):free (List.replicate n false)=n:=by
 induction n with
 | zero=>rfl
 | succ n ih=>simp only [List.replicate_succ,free,ih];simp;omega
theorem Awg:∀ {l:List Bool} {n:Nat},l[n]? = some false->free (l.set n true)+1=free l
 | [],n,h=>by simp at h
 | b::l,0,h=>by simp at h;subst h;simp [free];omega
 | b::l,n+1,h=>by
  simp only [List.getElem?_cons_succ] at h;have:=Awg h;simp only [List.set_cons_succ,free];omega
theorem Bc3 {l:List Bool} {i:Int} (h:lget l i=some false):free (lset l i true)+1=free l:=Awg (Aba h).2
theorem Apz {rows:Int}:∀ {r:List Int} {i b:Int} {s s':List Bool},-1<=b->(s.length:Int)=rows->Ac2 rows b s (i::r)=some s'->b<i/\i<rows/\lget s i=some false/\Ac2 rows i (lset s i true) r=some s':=by
 intro r i b s s' hb hs h;simp only [Ac2] at h
 split at h
 ·cases h
 ·rename_i h1;simp only [not_or] at h1;obtain ⟨x,hx⟩:=Afp (l:=s) (i:=i) (by omega) (by omega);refine ⟨by omega,by omega,?_,h⟩;rw [hx] at h1 ⊢;cases x with
  | true=>exact absurd rfl h1.2.2
  | false=>rfl
theorem Aoa {rows:Int}:∀ {r:List Int} {b:Int} {s s':List Bool},-1<=b->(s.length:Int)=rows->Ac2 rows b s r=some s'->free s'+r.length=free s
 | [],b,s,s',hb,hs,h=>by simp [Ac2] at h;simp [h]
 | i::r,b,s,s',hb,hs,h=>by
  obtain ⟨h1,h2,h3,h4⟩:=Apz hb hs h;have:=Aoa (by omega) (by rw [Abr];exact hs) h4;have h5:=Bc3 h3;simp only [List.length_cons];omega
def Agw:List (List Int)->Int
 | []=>0
 | c::cs=>((c.length:Int)-1)+Agw cs
theorem An6 {rows first:Int} {s:List Bool} {c:List Int} {cs:List (List Int)} (h:Ac5 rows first s (c::cs)=true):∃ a b r s',c=a::b::r/\first<a/\Ac2 rows (-1) s c=some s'/\Ac5 rows a s' cs=true:=by
 match c,h with
 | [],h=>simp [Ac5] at h
 | [_],h=>simp [Ac5] at h
 | a::b::r,h=>
  simp only [Ac5] at h
  split at h
  ·cases h
  ·rename_i h1;cases ho:Ac2 rows (-1) s (a::b::r) with
   | none=>rw [ho] at h;cases h
   | some s'=>rw [ho] at h;exact ⟨a,b,r,s',rfl,by omega,rfl,h⟩
theorem Ard {rows:Int}:∀ {cs:List (List Int)} {first:Int} {s:List Bool},(s.length:Int)=rows->Ac5 rows first s cs=true->0<=Agw cs/\Agw cs<=free s
 | [],_,_,_,_=>by simp [Agw]
 | c::cs,first,s,hs,h=>by
  obtain ⟨a,b,r,s',hc,h1,h2,h3⟩:=An6 h;have h4:=Aoa (by omega) hs h2;have h5:=Ard (by rw [Al3 h2];exact hs) h3;subst hc;simp only [Agw,List.length_cons] at h4 ⊢;omega
theorem Axi {p:api_Partition} (h:Acf p=true):0<=p.Rows/\p.Rows<=1000/\Ac5 p.Rows (-1) (List.replicate p.Rows.toNat false) p.Classes=true:=by
 unfold Acf at h
 split at h
 ·cases h
 ·split at h
  ·cases h
  ·exact ⟨by omega,by omega,h⟩
def Afc (a:Int):List Int->List Int->List Int
 | l,[]=>l
 | l,i::r=>Afc a (lset l i a) r
theorem Ace {a:Int}:∀ {l r:List Int},(Afc a l r).length=l.length
 | _,[]=>rfl
 | l,i::r=>by simp only [Afc];rw [Ace,Abr]
def Akj (s:List Bool) (r:List Int):List Bool:=r.foldl (fun s i=>lset s i true) s
theorem Ao5:∀ {r:List Int} {s:List Bool},(Akj s r).length=s.length
 | [],_=>rfl
 | i::r,s=>by
  show (Akj (lset s i true) r).length=_;rw [Ao5,Abr]
theorem Ao4:∀ {r:List Int} {s:List Bool} {j:Int},(∀ i∈r,0<=i/\i<s.length)->0<=j->j<s.length->lget (Akj s r) j=if j∈r then some true else lget s j
 | [],_,_,_,_,_=>by simp [Akj]
 | i::r,s,j,h,hj,hjs=>by
  show lget (Akj (lset s i true) r) j=_;have hi:=h i (by simp);rw [Ao4 (fun k hk=>by rw [Abr];exact h k (by simp [hk])) hj (by rw [Abr];exact hjs)];by_cases h1:j∈r
  ·simp [h1]
  ·rw [if_neg h1,Akg hi.1 hj];by_cases h2:i=j
   ·subst h2;simp [hi.2]
   ·rw [if_neg h2,if_neg];simp only [List.mem_cons,not_or];exact ⟨fun h=>h2 h.symm,h1⟩
theorem Ai4 {rows:Int}:∀ {r:List Int} {b:Int} {s s':List Bool},-1<=b->(s.length:Int)=rows->(Ac2 rows b s r=some s'↔(b::r).Pairwise (·<·)/\(∀ i∈r,i<rows/\lget s i=some false)/\s'=Akj s r)
 | [],b,s,s',hb,hs=>by simp [Ac2,Akj,eq_comm]
 | i::r,b,s,s',hb,hs=>by
  constructor
  ·intro h;obtain ⟨h1,h2,h3,h4⟩:=Apz hb hs h;obtain ⟨k1,k2,k3⟩:=(Ai4 (by omega) (by rw [Abr];exact hs)).1 h4;have k4:=List.pairwise_cons.1 k1;refine ⟨List.pairwise_cons.2 ⟨fun j hj=>?_,k1⟩,fun j hj=>?_,k3⟩
   ·rcases List.mem_cons.1 hj with rfl | hj
    ·exact h1
    ·have:=k4.1 j hj;omega
   ·rcases List.mem_cons.1 hj with rfl | hj
    ·exact ⟨h2,h3⟩
    ·have h5:=k4.1 j hj;have h6:=k2 j hj;rw [Akg (by omega) (by omega),if_neg (by omega)] at h6;exact h6
  ·rintro ⟨h1,h2,h3⟩;have k1:=List.pairwise_cons.1 h1;have k2:=List.pairwise_cons.1 k1.2;have hbi:=k1.1 i (by simp);have hi:=h2 i (by simp);simp only [Ac2];rw [if_neg (by
    rintro (h | h | h)
    ·omega
    ·omega
    ·rw [hi.2] at h;cases h)]
   refine (Ai4 (by omega) (by rw [Abr];exact hs)).2 ⟨k1.2,fun j hj=>?_,h3⟩;have h5:=k2.1 j hj;rw [Akg (by omega) (by omega),if_neg (by omega)];exact h2 j (by simp [hj])
structure CP (rows:Int) (cs:List (List Int)):Prop where
 two:∀ c∈cs,2<=c.length
 inc:∀ c∈cs,c.Pairwise (·<·)
 inn:∀ c∈cs,∀ i∈c,0<=i/\i<rows
 heads:cs.Pairwise fun c d=>c.headD 0<d.headD 0
 disj:cs.Pairwise fun c d=>∀ i∈c,i ∉ d
theorem Agb {rows:Int}:∀ {cs:List (List Int)} {first:Int} {s:List Bool},-1<=first->(s.length:Int)=rows->(Ac5 rows first s cs=true↔CP rows cs/\(∀ c∈cs,first<c.headD 0)/\∀ c∈cs,∀ i∈c,lget s i=some false)
 | [],first,s,hf,hs=>by
  simp only [Ac5,true_iff];exact ⟨⟨by simp,by simp,by simp,by simp,by simp⟩,by simp,by simp⟩
 | c::cs,first,s,hf,hs=>by
  constructor
  ·intro h;obtain ⟨a,b,t,s',hc,h1,h2,h3⟩:=An6 h;obtain ⟨m1,m2,m3⟩:=(Ai4 (by omega) hs).1 h2;have hin:∀ i∈c,0<=i/\i<rows:=fun i hi=>by
    have:=(List.pairwise_cons.1 m1).1 i hi;exact ⟨by omega,(m2 i hi).1⟩
   have hs':(s'.length:Int)=rows:=by rw [m3,Ao5];exact hs
   have ha:0<=a:=(hin a (by rw [hc];simp)).1;obtain ⟨n1,n2,n3⟩:=(Agb (by omega) hs').1 h3;have key:∀ d∈cs,∀ i∈d,i ∉ c/\lget s i=some false:=fun d hd i hi=>by
    have h5:=n3 d hd i hi;have h6:=n1.inn d hd i hi;rw [m3,Ao4 (fun k hk=>by have:=hin k hk;omega) h6.1 (by omega)] at h5;by_cases hic:i∈c
    ·rw [if_pos hic] at h5;cases h5
    ·rw [if_neg hic] at h5;exact ⟨hic,h5⟩
   refine ⟨⟨?_,?_,?_,?_,?_⟩,?_,?_⟩
   ·intro d hd;rcases List.mem_cons.1 hd with rfl | hd
    ·rw [hc];simp
    ·exact n1.two d hd
   ·intro d hd;rcases List.mem_cons.1 hd with rfl | hd
    ·exact (List.pairwise_cons.1 m1).2
    ·exact n1.inc d hd
   ·intro d hd;rcases List.mem_cons.1 hd with rfl | hd
    ·exact hin
    ·exact n1.inn d hd
   ·refine List.pairwise_cons.2 ⟨fun d hd=>?_,n1.heads⟩;have:=n2 d hd;rw [hc];exact this
   ·exact List.pairwise_cons.2 ⟨fun d hd i hi hid=>(key d hd i hid).1 hi,n1.disj⟩
   ·intro d hd;rcases List.mem_cons.1 hd with rfl | hd
    ·rw [hc];exact h1
    ·have:=n2 d hd;omega
   ·intro d hd i hi;rcases List.mem_cons.1 hd with rfl | hd
    ·exact (m2 i hi).2
    ·exact (key d hd i hi).2
  ·rintro ⟨⟨p1,p2,p3,p4,p5⟩,q1,q2⟩
   match c,p1 c (by simp),p1,p2,p3,p4,p5,q1,q2 with
   | a::b::t,_,p1,p2,p3,p4,p5,q1,q2=>
    have ho:Ac2 rows (-1) s (a::b::t)=some (Akj s (a::b::t)):=(Ai4 (by omega) hs).2 ⟨List.pairwise_cons.2 ⟨fun i hi=>by have:=(p3 _ (by simp) i hi).1;omega,p2 _ (by simp)⟩,fun i hi=>⟨(p3 _ (by simp) i hi).2,q2 _ (by simp) i hi⟩,rfl⟩;have ha:=p3 (a::b::t) (by simp) a (by simp);simp only [Ac5];rw [if_neg (by have:=q1 (a::b::t) (by simp);simp at this;omega),ho];refine (Agb (by omega) (by rw [Ao5];exact hs)).2 ⟨⟨fun d hd=>p1 d (by simp [hd]),fun d hd=>p2 d (by simp [hd]),fun d hd=>p3 d (by simp [hd]),(List.pairwise_cons.1 p4).2,(List.pairwise_cons.1 p5).2⟩,fun d hd=>?_,fun d hd i hi=>?_⟩
    ·exact (List.pairwise_cons.1 p4).1 d hd
    ·have h6:=p3 d (by simp [hd]) i hi;rw [Ao4 (fun k hk=>by have:=p3 (a::b::t) (by simp) k hk;omega) h6.1 (by omega),if_neg]
     ·exact q2 d (by simp [hd]) i hi
     ·exact fun hic=>(List.pairwise_cons.1 p5).1 d hd i hic hi
theorem Afi {p:api_Partition}:Acf p=true↔0<=p.Rows/\p.Rows<=1000/\CP p.Rows p.Classes:=by
 constructor
 ·intro h;obtain ⟨h1,h2,h3⟩:=Axi h;exact ⟨h1,h2,((Agb (by omega) (by simp;omega)).1 h3).1⟩
 ·rintro ⟨h1,h2,h3⟩;unfold Acf;rw [if_neg (by omega),if_neg (by omega)];refine (Agb (by omega) (by simp;omega)).2 ⟨h3,fun c hc=>?_,fun c hc i hi=>?_⟩
  ·have h4:=h3.two c hc
   match c,h4,hc with
   | a::t,_,hc=>have:=h3.inn _ hc a (by simp);simp;omega
  ·have:=h3.inn c hc i hi;simp only [lget,if_pos this.1,List.getElem?_replicate];rw [if_pos (by omega)]
def Same (p:api_Partition) (i j:Int):Prop:=i=j∨∃ c∈p.Classes,i∈c/\j∈c
theorem Ajf {a:Int}:∀ {r:List Int} {l:List Int} {j:Int},(∀ i∈r,0<=i/\i<l.length)->0<=j->j<l.length->lget (Afc a l r) j=if j∈r then some a else lget l j
 | [],_,_,_,_,_=>by simp [Afc]
 | i::r,l,j,h,hj,hjl=>by
  have hi:=h i (by simp);simp only [Afc];rw [Ajf (fun k hk=>by rw [Abr];exact h k (by simp [hk])) hj (by rw [Abr];exact hjl)];by_cases h1:j∈r
  ·simp [h1]
  ·rw [if_neg h1,Akg hi.1 hj];by_cases h2:i=j
   ·subst h2;simp [hi.2]
   ·rw [if_neg h2,if_neg];simp only [List.mem_cons,not_or];exact ⟨fun h=>h2 h.symm,h1⟩
def Ah4:List (Int×List Int)->List Int->List Int
 | [],l=>l
 | (a,c)::r,l=>Ah4 r (Afc a l c)
theorem Arw:∀ {r:List (Int×List Int)} {l:List Int},(Ah4 r l).length=l.length
 | [],_=>rfl
 | (a,c)::r,l=>by simp only [Ah4];rw [Arw,Ace]
theorem Amj:∀ {r:List (Int×List Int)} {l:List Int} {j:Int},(∀ x∈r,∀ i∈x.2,0<=i/\i<l.length)->0<=j->j<l.length->(∀ x∈r,j ∉ x.2)->lget (Ah4 r l) j=lget l j
 | [],_,_,_,_,_,_=>rfl
 | (a,c)::r,l,j,h,hj,hjl,hn=>by
  simp only [Ah4];rw [Amj (fun x hx=>by rw [Ace];exact h x (by simp [hx])) hj (by rw [Ace];exact hjl) (fun x hx=>hn x (by simp [hx])),Ajf (h (a,c) (by simp)) hj hjl,if_neg (hn (a,c) (by simp))]
theorem Aui:∀ {r:List (Int×List Int)} {l:List Int} {j:Int} {x:Int×List Int},(∀ x∈r,∀ i∈x.2,0<=i/\i<l.length)->0<=j->j<l.length->r.Pairwise (fun x y=>∀ i∈x.2,i ∉ y.2)->x∈r->j∈x.2->lget (Ah4 r l) j=some x.1
 | [],_,_,_,_,_,_,_,hx,_=>by cases hx
 | (a,c)::r,l,j,x,h,hj,hjl,hp,hx,hjx=>by
  simp only [Ah4];have hp':=List.pairwise_cons.1 hp;rcases List.mem_cons.1 hx with rfl | hx
  ·rw [Amj (fun x hx=>by rw [Ace];exact h x (by simp [hx])) hj (by rw [Ace];exact hjl) (fun y hy=>hp'.1 y hy j hjx),Ajf (h (a,c) (by simp)) hj hjl,if_pos hjx]
  ·exact Aui (fun x hx=>by rw [Ace];exact h x (by simp [hx])) hj (by rw [Ace];exact hjl) hp'.2 hx hjx
theorem Bc6 {c:List Int} (h:2<=c.length):c.headD 0∈c:=by
 match c,h with
 | a::t,_=>simp
end Go.Own
namespace Go.Own
open Go.Proofs D
set_option maxRecDepth 100000
set_option maxHeartbeats 4000000
namespace q60_
noncomputable def B:Code:=(Tryz.f48.body).getD .skip
def W:List Nat:=[0,1,2,3,4,5,6,8,13,14,15,24,25,26,27,31,32,33,34]
def res (r:List Int):D×List D:=(.own (r.map (eI .i64)),[])
def C (x0:api_Partition) (r:List Int):Prop:=Ret env 48 [.agg [.lit (.int .i64 x0.Rows),.sl (x0.Classes.map (eSl (eI .i64)))]] (res r).1 (res r).2
def L1 (x0:api_Partition) (z0:List Int) (z1:Int) (φ:List Int->Prop):Prop:=Pt env 48 W B [1,1,0,1,0] [(0,.agg [.lit (.int .i64 x0.Rows),.sl (x0.Classes.map (eSl (eI .i64)))]),(1,.box [.lit (.int .i64 x0.Rows),.sl (x0.Classes.map (eSl (eI .i64)))]),(3,.own (z0.map (eI .i64))),(13,.lit (.int .i64 (((List.replicate x0.Rows.toNat (0:Int)).length:Int)))),(14,.lit (.int .i64 z1))] (Lv env 48 Tryz.f48 1 res φ)
def L2 (x0:api_Partition) (z0:List Int) (z1:Int) (φ:List Int->Prop):Prop:=Pt env 48 W B [1,1,1,0,1,0] [(0,.agg [.lit (.int .i64 x0.Rows),.sl (x0.Classes.map (eSl (eI .i64)))]),(1,.box [.lit (.int .i64 x0.Rows),.sl (x0.Classes.map (eSl (eI .i64)))]),(3,.own (z0.map (eI .i64))),(24,.sl (x0.Classes.map (eSl (eI .i64)))),(25,.lit (.int .i64 ((x0.Classes.length:Int)))),(26,.lit (.int .i64 z1))] (Lv env 48 Tryz.f48 1 res φ)
def L3 (x0:api_Partition) (z0:List Int) (z1:Int) (a4:List Int) (z2 z3:Int) (φ:List Int->Prop):Prop:=Pt env 48 W B [1,1,1,0,1,0,0,1,1,0,0,1,1,0] [(0,.agg [.lit (.int .i64 x0.Rows),.sl (x0.Classes.map (eSl (eI .i64)))]),(1,.box [.lit (.int .i64 x0.Rows),.sl (x0.Classes.map (eSl (eI .i64)))]),(3,.own (z0.map (eI .i64))),(5,.lit (.int .i64 z1)),(6,.sl (a4.map (eI .i64))),(24,.sl (x0.Classes.map (eSl (eI .i64)))),(25,.lit (.int .i64 ((x0.Classes.length:Int)))),(26,.lit (.int .i64 z2)),(31,.sl (a4.map (eI .i64))),(32,.lit (.int .i64 ((a4.length:Int)))),(33,.lit (.int .i64 z3))] (Lv env 48 Tryz.f48 1 res φ)
theorem L1_step (x0:api_Partition) (z0:List Int) (z1:Int) (φ:List Int->Prop) (h :
 (if z1<((List.replicate x0.Rows.toNat (0:Int)).length:Int) then
 ∃ a2,lget z0 z1=some a2 /\
 q60_.L1 x0 ((lset z0 z1 (IntKind.wrap .i64 ((-1)-z1)))) ((IntKind.wrap .i64 (z1+1))) φ
 else
 q60_.L2 x0 z0 0 φ)):L1 x0 z0 z1 φ:=
 mIn <|
 mAsk 2 h dT dF (fun h=>
 mIy 12 (eI .i64) h fun a2 h3 h=>
 mSto 0 (eI .i64) ((IntKind.wrap .i64 ((-1)-z1))) h3 <|
 mFin 5 h) fun h=>
 mLen 6 (eSl (eI .i64)) x0.Classes <|
 mFin 2 h
theorem L2_step (x0:api_Partition) (z0:List Int) (z1:Int) (φ:List Int->Prop) (h :
 (if z1<(x0.Classes.length:Int) then
 ∃ a4,lget x0.Classes z1=some a4 /\
 q60_.L3 x0 z0 z1 a4 z1 0 φ
 else
 φ z0)):L2 x0 z0 z1 φ:=
 mIn <|
 mAsk 2 h dT dF (fun h=>
 mIx 5 (eSl (eI .i64)) h fun a4 h5 h=>
 mLen 6 (eI .i64) a4 <|
 mFin 2 h) fun h=>
 mRet 7 h
theorem L3_step (x0:api_Partition) (z0:List Int) (z1:Int) (a4:List Int) (z2 z3:Int) (φ:List Int->Prop) (h :
 (if z3<(a4.length:Int) then
 ∃ a6,lget a4 z3=some a6 /\
 ∃ a8,lget z0 a6=some a8 /\
 q60_.L3 x0 ((lset z0 a6 z1)) z1 a4 z2 ((IntKind.wrap .i64 (z3+1))) φ
 else
 q60_.L2 x0 z0 ((IntKind.wrap .i64 (z2+1))) φ)):L3 x0 z0 z1 a4 z2 z3 φ:=
 mIn <|
 mAsk 2 h dT dF (fun h=>
 mIx 4 (eI .i64) h fun a6 h7 h=>
 mIy 7 (eI .i64) h fun a8 h9 h=>
 mSto 0 (eI .i64) z1 h9 <|
 mFin 5 h) fun h=>
 mFin 7 h
theorem enter (x0:api_Partition) (φ:List Int->Prop) (h :
 (0<=x0.Rows/\x0.Rows*8<=281474976710656) /\
 q60_.L1 x0 ((List.replicate x0.Rows.toNat (0:Int))) 0 φ):∃ r,φ r/\C x0 r:=
 mEnt (fd:=Tryz.f48) (body:=B) (V:=W) (res:=res) <|
 h.elim fun h1 h=>
 mVl 7 (Aqz (t:=46) (x:=(.tmp 10)) (y:=(.tmp 10)) (q:=.i64) (i:=x0.Rows) (et:=3) (z:=.lit (.int .i64 0)) (e:=(eI .i64)) (a:=(0:Int)) (k:=8) (by kernel_rfl) (by kernel_rfl) (by kernel_rfl) (by kernel_rfl) (by kernel_rfl) (by kernel_rfl) (by kernel_rfl) (by kernel_rfl) (by kernel_rfl) (by kernel_rfl) h1.1 h1.2) <|
 mLen 4 (eI .i64) ((List.replicate x0.Rows.toNat (0:Int))) <|
 mFin 2 h
end q60_
namespace q80_
noncomputable def B:Code:=(Tryz.f47.body).getD .skip
def W:List Nat:=[0,1,2,3,4,12,17]
def res (r:Int):D×List D:=(.lit (.int .i64 r),[])
def C (x0 x1:api_Partition) (r:Int):Prop:=Ret env 47 [.agg [.lit (.int .i64 x0.Rows),.sl (x0.Classes.map (eSl (eI .i64)))],.agg [.lit (.int .i64 x1.Rows),.sl (x1.Classes.map (eSl (eI .i64)))]] (res r).1 (res r).2
theorem enter (x0 x1:api_Partition) (φ:Int->Prop) (h :
 ∃ r1:Bool,q74_.C x0 r1 /\
 (if r1=true then
 ∃ r2:Bool,q74_.C x1 r2 /\
 (if r2=true then
 (if x0.Rows=x1.Rows then
 φ 0
 else
 φ 6)
 else
 φ 1)
 else
 φ 1)):∃ r,φ r/\C x0 x1 r:=
 mEnt (fd:=Tryz.f47) (body:=B) (V:=W) (res:=res) <|
 Abv 7 h (fun _ h=>h) (fun _ h=>
 Abv 3 h (fun _ h=>h) (fun _ h=>
 Ael 10 h Ae1 Ae0 (fun h=>
 mRet 5 h) fun h=>
 mRet 6 h) fun _ h=>
 mRet 7 h) fun _ h=>
 mRet 11 h
end q80_
end Go.Own
namespace Go.Own
def negs (n:Nat):List Int:=(List.range n).map fun (k:Nat)=>-1-(k:Int)
theorem Beo {n k:Nat} (h:k<n):(negs n)[k]? = some (-1-(k:Int)):=by simp [negs,h]
theorem Agh {n:Nat}:(negs n).length=n:=by simp [negs]
def idx:Nat->List (List Int)->List (Int×List Int)
 | _,[]=>[]
 | k,c::cs=>((k:Int),c)::idx (k+1) cs
theorem Agn:∀ {cs:List (List Int)} {k:Nat} {x:Int×List Int},x∈idx k cs->∃ n:Nat,k<=n/\x.1=(n:Int)/\cs[n-k]? = some x.2
 | [],_,_,h=>by cases h
 | c::cs,k,x,h=>by
  rcases List.mem_cons.1 h with rfl | h
  ·exact ⟨k,by omega,rfl,by simp⟩
  ·obtain ⟨n,h1,h2,h3⟩:=Agn h;refine ⟨n,by omega,h2,?_⟩;have:n-k=(n-(k+1))+1:=by omega
   rw [this,List.getElem?_cons_succ];exact h3
theorem Awk:∀ {cs:List (List Int)} {k:Nat} {c:List Int},c∈cs->∃ n:Nat,((n:Int),c)∈idx k cs
 | [],_,_,h=>by cases h
 | d::cs,k,c,h=>by
  rcases List.mem_cons.1 h with rfl | h
  ·exact ⟨k,by simp [idx]⟩
  ·obtain ⟨n,hn⟩:=Awk (k:=k+1) h;exact ⟨n,by simp [idx,hn]⟩
theorem Ayz:∀ {cs:List (List Int)} {k:Nat},(idx k cs).map Prod.snd=cs
 | [],_=>rfl
 | c::cs,k=>by simp [idx,Ayz]
def labN (p:api_Partition):List Int:=Ah4 (idx 0 p.Classes) (negs p.Rows.toNat)
theorem Aql {p:api_Partition}:(labN p).length=p.Rows.toNat:=by unfold labN;rw [Arw,Agh]
namespace q60_
theorem fill {x0:api_Partition} {φ:List Int->Prop} (h0:0<=x0.Rows) (h1:x0.Rows<=1000) (hL:L2 x0 (negs x0.Rows.toNat) 0 φ):∀ (m k:Nat),k+m=x0.Rows.toNat->L1 x0 (negs k++List.replicate m 0) k φ
 | 0,k,hk=>by
  apply L1_step;rw [if_neg (by simp;omega)];have:k=x0.Rows.toNat:=by omega
  simpa [this] using hL
 | m+1,k,hk=>by
  apply L1_step;rw [if_pos (by simp;omega)];have hl:(negs k).length=k:=Agh;refine ⟨0,?_,?_⟩
  ·rw [Ab5,List.getElem?_append_right (by omega)];simp [hl]
  ·rw [Aa4 (by omega),Ac7 (by omega) (by omega)];have:lset (negs k++List.replicate (m+1) 0) (k:Int) (-1-(k:Int))=negs (k+1)++List.replicate m 0:=by
    unfold lset;rw [Int.toNat_natCast,List.set_append_right _ _ (by omega),hl,Nat.sub_self,List.replicate_succ,List.set_cons_zero];simp [negs,List.range_succ]
   rw [this];exact fill h0 h1 hL m (k+1) (by omega)
theorem inner {x0:api_Partition} {φ:List Int->Prop} {c:List Int} {a:Int} {j:Nat} (hb:c.length<Big) (hj:j+1<Big):∀ (r:List Int) (k:Nat) (l:List Int),c.drop k=r->(∀ i∈r,0<=i/\i<l.length) ->
  L2 x0 (Afc a l r) ((j+1:Nat):Int) φ->L3 x0 l a c j k φ
 | [],k,l,hd,hin,h=>by
  apply L3_step;have:=Aar hd;rw [if_neg (by omega),Aa4 hj];exact h
 | i::r,k,l,hd,hin,h=>by
  apply L3_step;have hk:=Aas hd;have hi:=hin i (by simp);rw [if_pos (by omega)];obtain ⟨x,hx⟩:=Afp (l:=l) (i:=i) hi.1 hi.2;refine ⟨i,Aaz hd,x,hx,?_⟩;rw [Aa4 (by unfold Big at hb;omega)];exact inner hb hj r (k+1) _ (Aa8 hd) (fun q hq=>by rw [Abr];exact hin q (by simp [hq])) h
theorem outer {x0:api_Partition} {φ:List Int->Prop} (hb:Ahv x0):∀ (cs:List (List Int)) (k:Nat) (l:List Int),x0.Classes.drop k=cs->(∀ c∈cs,∀ i∈c,0<=i/\i<l.length) ->
  φ (Ah4 (idx k cs) l)->L2 x0 l k φ
 | [],k,l,hd,hin,h=>by
  apply L2_step;have:=Aar hd;rw [if_neg (by omega)];exact h
 | c::cs,k,l,hd,hin,h=>by
  apply L2_step;have hk:=Aas hd;rw [if_pos (by omega)];have hcg:=Aae hd;refine ⟨c,Aaz hd,?_⟩;refine inner (hb.2 _ (List.mem_of_getElem? hcg)) (by have:=hb.1;omega) c 0 l rfl (hin c (by simp)) ?_;exact outer hb cs (k+1) _ (Aa8 hd) (fun d hd i hi=>by rw [Ace];exact hin d (by simp [hd]) i hi) h
theorem spec {x0:api_Partition} (hb:Ahv x0) (hv:Acf x0=true):C x0 (labN x0):=by
 obtain ⟨v1,v2,v3⟩:=Afi.1 hv;obtain ⟨r,h1,h2⟩:=enter x0 (fun r=>r=labN x0) (by
  refine ⟨by omega,?_⟩;have:=fill (φ:=fun r=>r=labN x0) v1 v2 (outer hb x0.Classes 0 _ rfl (fun c hc i hi=>by have:=v3.inn c hc i hi;rw [Agh];omega) rfl) x0.Rows.toNat 0 (by omega)
  simpa [negs] using this)
 rw [← h1];exact h2
end q60_
theorem Aqm {p:api_Partition} (hv:Acf p=true) {i:Int} (h0:0<=i) (h1:i<p.Rows) (hn:∀ c∈p.Classes,i ∉ c):lget (labN p) i=some (-1-i):=by
 obtain ⟨v1,v2,v3⟩:=Afi.1 hv;unfold labN;rw [Amj (fun x hx=>?_) h0 (by rw [Agh];omega) (fun x hx=>?_)]
 ·simp only [lget,if_pos h0];rw [Beo (by omega)];congr 1;omega
 ·obtain ⟨n,_,_,h3⟩:=Agn hx;intro j hj;have:=v3.inn _ (List.mem_of_getElem? h3) j hj;rw [Agh];omega
 ·obtain ⟨n,_,_,h3⟩:=Agn hx;exact hn _ (List.mem_of_getElem? h3)
theorem All {p:api_Partition} (hv:Acf p=true) {i:Int} {x:Int×List Int} (hc:x∈idx 0 p.Classes) (hi:i∈x.2):lget (labN p) i=some x.1:=by
 obtain ⟨v1,v2,v3⟩:=Afi.1 hv;obtain ⟨n,_,_,h3⟩:=Agn hc;have hin:=v3.inn _ (List.mem_of_getElem? h3) i hi;unfold labN;refine Aui (fun y hy=>?_) hin.1 (by rw [Agh];omega) ?_ hc hi
 ·obtain ⟨n,_,_,h3⟩:=Agn hy;intro j hj;have:=v3.inn _ (List.mem_of_getElem? h3) j hj;rw [Agh];omega
 ·have:=v3.disj;rw [← Ayz (cs:=p.Classes) (k:=0)] at this;exact List.pairwise_map.1 this
theorem Bch {p:api_Partition} (hv:Acf p=true) {i j:Int} (hi:0<=i/\i<p.Rows) (hj:0<=j/\j<p.Rows):lget (labN p) i=lget (labN p) j↔Same p i j:=by
 obtain ⟨v1,v2,v3⟩:=Afi.1 hv;have inn:∀ {i:Int},(∃ c∈p.Classes,i∈c)->∃ x∈idx 0 p.Classes,i∈x.2:=by
  rintro i ⟨c,hc,hi⟩;obtain ⟨n,hn⟩:=Awk (k:=0) hc;exact ⟨_,hn,hi⟩
 constructor
 ·intro h;by_cases hic:∃ c∈p.Classes,i∈c
  ·obtain ⟨x,hx,hxi⟩:=inn hic;obtain ⟨n,_,e1,g1⟩:=Agn hx;rw [All hv hx hxi] at h;by_cases hjc:∃ d∈p.Classes,j∈d
   ·obtain ⟨y,hy,hyj⟩:=inn hjc;obtain ⟨m,_,e2,g2⟩:=Agn hy;rw [All hv hy hyj] at h;have h2:=Option.some.inj h;have:n=m:=by omega
    subst this;rw [g1] at g2;have:=Option.some.inj g2;exact .inr ⟨x.2,List.mem_of_getElem? g1,hxi,by rw [this];exact hyj⟩
   ·rw [Aqm hv hj.1 hj.2 (fun c hc hjc'=>hjc ⟨c,hc,hjc'⟩)] at h;have h2:=Option.some.inj h;omega
  ·rw [Aqm hv hi.1 hi.2 (fun c hc hic'=>hic ⟨c,hc,hic'⟩)] at h;by_cases hjc:∃ d∈p.Classes,j∈d
   ·obtain ⟨y,hy,hyj⟩:=inn hjc;obtain ⟨m,_,e2,g2⟩:=Agn hy;rw [All hv hy hyj] at h;have h2:=Option.some.inj h;omega
   ·rw [Aqm hv hj.1 hj.2 (fun c hc hjc'=>hjc ⟨c,hc,hjc'⟩)] at h;exact .inl (by have:=Option.some.inj h;omega)
 ·rintro (rfl | ⟨c,hc,h1,h2⟩)
  ·rfl
  ·obtain ⟨n,hn⟩:=Awk (k:=0) hc;rw [All hv hn h1,All hv hn h2]
def Ak9 (a b:api_Partition):Int:=if Acf a then (if Acf b then (if a.Rows=b.Rows then 0 else 6) else 1) else 1
theorem q80_.spec {a b:api_Partition} (ha:Ahv a) (hb:Ahv b):q80_.C a b (Ak9 a b):=by
 obtain ⟨r,h1,h2⟩:=q80_.enter a b (fun r=>r=Ak9 a b) (by
  refine ⟨_,q74_.spec ha,?_⟩;unfold Ak9
  split
  ·refine ⟨_,q74_.spec hb,?_⟩
   split
   ·split
    ·rfl
    ·rfl
   ·rfl
  ·rfl)
 rw [← h1];exact h2
theorem Anu {rows:Int}:∀ {cs:List (List Int)} {c:List Int},CP rows cs->c∈cs->(c.length:Int)-1<=Agw cs/\(cs.length:Int)<=Agw cs
 | [],_,_,h=>by cases h
 | d::cs,c,hp,h=>by
  have hd:=hp.two d (by simp);have hp':CP rows cs:=⟨fun c hc=>hp.two c (by simp [hc]),fun c hc=>hp.inc c (by simp [hc]),fun c hc=>hp.inn c (by simp [hc]),(List.pairwise_cons.1 hp.heads).2,(List.pairwise_cons.1 hp.disj).2⟩
  have hnn:∀ {cs:List (List Int)},CP rows cs->(cs.length:Int)<=Agw cs:=by
   intro cs
   induction cs with
   | nil=>intro _;simp [Agw]
   | cons e cs ih=>
    intro hq;have he:=hq.two e (by simp);have:=ih ⟨fun c hc=>hq.two c (by simp [hc]),fun c hc=>hq.inc c (by simp [hc]),fun c hc=>hq.inn c (by simp [hc]),(List.pairwise_cons.1 hq.heads).2,(List.pairwise_cons.1 hq.disj).2⟩;simp only [Agw,List.length_cons];omega
  have h1:=hnn hp';simp only [Agw,List.length_cons];refine ⟨?_,by omega⟩;rcases List.mem_cons.1 h with rfl | h
  ·omega
  ·have:=(Anu hp' h).1;omega
theorem Bl9 {x:api_Partition} (hv:Acf x=true):x.Classes.length<=1000/\∀ c∈x.Classes,c.length<=1001:=by
 obtain ⟨v1,v2,v3⟩:=Afi.1 hv;obtain ⟨w1,w2,w3⟩:=Axi hv;have h1:=(Ard (by simp;omega) w3).2;rw [At5] at h1;refine ⟨?_,fun c hc=>?_⟩
 ·cases hcs:x.Classes with
  | nil=>simp
  | cons c cs=>
   have:=(Anu v3 (c:=c) (by rw [hcs];simp)).2;rw [hcs] at this h1;omega
 ·have:=(Anu v3 hc).1;omega
def lab1 (r:List Int) (i:Int):Int:=(lget r i).getD 0
theorem Az1 {r:List Int} {i a:Int} (h:lget r i=some a):lab1 r i=a:=by simp [lab1,h]
theorem Beg {r:List Int} {i j:Int} (hi:0<=i/\i<r.length) (hj:0<=j/\j<r.length):lab1 r i=lab1 r j↔lget r i=lget r j:=by
 obtain ⟨a,ha⟩:=Afp hi.1 hi.2;obtain ⟨b,hb⟩:=Afp hj.1 hj.2;simp [lab1,ha,hb]
def cls {α:Type} [DecidableEq α] (l:List α) (a:α):List Int:=((List.range l.length).filter fun k=>decide (l[k]? = some a)).map fun (k:Nat)=>(k:Int)
def fsts {α:Type} [DecidableEq α] (l:List α):List α:=l.foldl (fun acc a=>if a∈acc then acc else acc++[a]) []
def grpF {α:Type} [DecidableEq α] (l:List α):List (List Int):=((fsts l).map (cls l)).filter fun c=>decide (2<=c.length)
section
variable {α:Type} [DecidableEq α]
theorem Acu {l:List α} {a:α}:fsts (l++[a])=if a∈fsts l then fsts l else fsts l++[a]:=by
 unfold fsts;rw [List.foldl_append];rfl
theorem Aga {p:List α->Prop} (h0:p []) (h1:∀ l a,p l->p (l++[a])):∀ l,p l:=by
 intro l;have:∀ n (l:List α),l.length=n->p l:=by
  intro n
  induction n with
  | zero=>intro l hl;rw [List.length_eq_zero_iff.1 hl];exact h0
  | succ n ih=>
   intro l hl;have hne:l≠[]:=fun h=>by rw [h] at hl;simp at hl
   rw [← List.dropLast_concat_getLast hne];exact h1 _ _ (ih _ (by simp [hl]))
 exact this _ l rfl
theorem Ahn {l:List α} {a:α}:a∈fsts l↔a∈l:=by
 refine Aga (p:=fun l=>a∈fsts l↔a∈l) (by simp [fsts]) (fun l b ih=>?_) l;rw [Acu]
 split
 ·rename_i hb;rw [ih];simp only [List.mem_append,List.mem_singleton];constructor
  ·exact .inl
  ·rintro (h | rfl)
   ·exact h
   ·have:a∈fsts l:=hb;exact ih.1 this
 ·simp only [List.mem_append,List.mem_singleton,ih]
theorem Ba1 {l:List α}:(fsts l).Nodup:=by
 refine Aga (p:=fun l=>(fsts l).Nodup) (by simp [fsts]) (fun l b ih=>?_) l;rw [Acu]
 split
 ·exact ih
 ·rename_i hb;rw [List.nodup_append];exact ⟨ih,by simp,fun x hx y hy=>by simp at hy;subst hy;exact fun h=>hb (h ▸ hx)⟩
theorem Ama {l:List α} {a b:α}:cls (l++[b]) a=if b=a then cls l a++[(l.length:Int)] else cls l a:=by
 unfold cls;rw [List.length_append,List.length_singleton,List.range_succ,List.filter_append,List.map_append];have h1:((List.range l.length).filter fun k=>decide ((l++[b])[k]? = some a))=(List.range l.length).filter fun k=>decide (l[k]? = some a):=by
  refine List.filter_congr fun k hk=>?_;rw [List.getElem?_append_left (by simpa using hk)]
 rw [h1];by_cases h:b=a
 ·simp [h]
 ·simp [h]
theorem Bfq {l:List α} {a:α} (h:a ∉ l):cls l a=[]:=by
 unfold cls;have:((List.range l.length).filter fun k=>decide (l[k]? = some a))=[]:=by
  rw [List.filter_eq_nil_iff];intro k _ hk;exact h (List.mem_of_getElem? (by simpa using hk))
 rw [this];rfl
theorem Aev {l:List α} {a:α} {i:Int}:i∈cls l a↔lget l i=some a:=by
 unfold cls;simp only [List.mem_map,List.mem_filter,List.mem_range,decide_eq_true_eq];constructor
 ·rintro ⟨k,⟨_,h⟩,rfl⟩;rw [Ab5];exact h
 ·intro h;obtain ⟨h0,h1⟩:=Aba h;exact ⟨i.toNat,⟨(List.getElem?_eq_some_iff.1 h1).1,h1⟩,by omega⟩
end
def Ae2 (c:List Int):Bool:=decide (2<=c.length)
theorem Auf {c:List Int}:decide ((c.length:Int)<2)=!Ae2 c:=by
 unfold Ae2;by_cases h:(c.length:Int)<2
 ·have:¬ 2<=c.length:=by omega
  simp [h,this]
 ·have:2<=c.length:=by omega
  simp [h,this]
def Af7:List (List Int)->Nat->Int
 | [],_=>-1
 | c::cs,k=>if Ae2 c then Af7 cs (k+1) else (k:Int)
theorem An4:∀ {l:List (List Int)} {k:Nat},(Af7 l k = -1/\∀ c∈l,Ae2 c=true)∨∃ n:Nat,Af7 l k=((k+n:Nat):Int)/\n<l.length/\(∀ c∈l.take n,Ae2 c=true)/\∃ c,l[n]? = some c/\Ae2 c=false
 | [],_=>.inl ⟨rfl,by simp⟩
 | c::l,k=>by
  simp only [Af7];cases hc:Ae2 c with
  | false=>exact .inr ⟨0,by simp,by simp,by simp,c,rfl,hc⟩
  | true=>
   simp only [if_true];rcases An4 (l:=l) (k:=k+1) with ⟨h1,h2⟩ | ⟨n,h1,h2,h3,h4⟩
   ·exact .inl ⟨h1,by simpa [hc] using h2⟩
   ·refine .inr ⟨n+1,by rw [h1];congr 1;omega,by simpa using h2,by simpa [hc] using h3,by simpa using h4⟩
def ixn {α:Type} [DecidableEq α]:List α->α->Nat
 | [],_=>0
 | b::l,a=>if b=a then 0 else ixn l a+1
theorem Bc9 {α:Type} [DecidableEq α] {a:α}:∀ {l:List α},a∈l->ixn l a<l.length
 | [],h=>by cases h
 | b::l,h=>by
  simp only [ixn,List.length_cons]
  split
  ·omega
  ·rename_i hb;have:=Bc9 (l:=l) (a:=a) ((List.mem_cons.1 h).resolve_left fun h=>hb h.symm);omega
theorem Ata {α:Type} [DecidableEq α] {a:α}:∀ {l:List α},a∈l->l[ixn l a]? = some a
 | [],h=>by cases h
 | b::l,h=>by
  simp only [ixn]
  split
  ·rename_i hb;subst hb;rfl
  ·rename_i hb;rw [List.getElem?_cons_succ];exact Ata ((List.mem_cons.1 h).resolve_left fun h=>hb h.symm)
theorem Bc8 {α:Type} [DecidableEq α] {a:α}:∀ {l m:List α},a∈l->ixn (l++m) a=ixn l a
 | [],_,h=>by cases h
 | b::l,m,h=>by
  simp only [List.cons_append,ixn]
  split
  ·rfl
  ·rename_i hb;rw [Bc8 ((List.mem_cons.1 h).resolve_left fun h=>hb h.symm)]
theorem Awl {α:Type} [DecidableEq α] {a:α}:∀ {l:List α},a ∉ l->ixn (l++[a]) a=l.length
 | [],_=>by simp [ixn]
 | b::l,h=>by
  simp only [List.mem_cons,not_or] at h;simp only [List.cons_append,ixn,if_neg (Ne.symm h.1),List.length_cons];rw [Awl h.2]
theorem Awm {α:Type} [DecidableEq α] {a:α}:∀ {l:List α} {q:Nat},l.Nodup->l[q]? = some a->ixn l a=q
 | [],q,_,h=>by simp at h
 | b::l,0,_,h=>by
  simp only [List.getElem?_cons_zero,zJ] at h;simp [ixn,h]
 | b::l,q+1,hl,h=>by
  simp only [List.getElem?_cons_succ] at h;have hn:=List.nodup_cons.1 hl;have:b≠a:=fun hb=>hn.1 (hb ▸ List.mem_of_getElem? h);simp only [ixn,if_neg this,Awm hn.2 h]
def ixOf {α:Type} [DecidableEq α] (m:List (α×Int)) (ks:List α):Prop:=∀ a,mget a m=if a∈ks then some ((ixn ks a:Nat):Int) else none
theorem Ao6 {κ ν:Type} [DecidableEq κ] {k k':κ} {v:ν}:∀ {l:List (κ×ν)},mget k' (mset k v l)=if k=k' then some v else mget k' l
 | []=>by
  by_cases h:k=k'
  ·subst h;simp [mset,mget]
  ·simp [mset,mget,h,Ne.symm h]
 | (a,b)::l=>by
  have ih:=Ao6 (k:=k) (k':=k') (v:=v) (l:=l);simp only [mset];by_cases h1:k=a
  ·subst h1;simp only [if_true,mget];by_cases h2:k'=k
   ·subst h2;simp
   ·simp [h2,Ne.symm h2]
  ·simp only [if_neg h1,mget];by_cases h2:k'=a
   ·subst h2;simp [h1]
   ·simp only [if_neg h2];exact ih
end Go.Own
namespace Go.Own
open Go.Proofs D
set_option maxRecDepth 100000
set_option maxHeartbeats 4000000
namespace q61_
noncomputable def B:Code:=(Tryz.f108.body).getD .skip
def W:List Nat:=[0,1,2,5,6,9]
def res (r:Bool):D×List D:=(.lit (.bool r),[])
def C (x0 x1:Int) (x2:api_Term) (r:Bool):Prop:=Ret env 108 [.lit (.int .i64 x0),.lit (.int .i64 x1),.agg [.lit (.int .i64 x2.Var),.lit (.int .i64 x2.Attr),.lit (.int .i64 x2.Value.Kind),.lit (.int .i64 x2.Value.Num),.lit (.string x2.Value.Str)]] (res r).1 (res r).2
theorem enter (x0 x1:Int) (x2:api_Term) (φ:Bool->Prop) (h :
 (if x2.Var=0 then
 (if x2.Attr=0 then
 ∃ r1:Bool,q93_.C x2.Value r1 /\
 φ r1
 else
 φ false)
 else
 (if 0<x2.Var then
 (if x2.Var<=x1 then
 (if 0<=x2.Attr then
 (if x2.Attr<x0 then
 φ ((and (x2.Value.Kind == 0) (and (x2.Value.Num == 0) (and (x2.Value.Str.toList == ((⟨#[]⟩:ByteArray)).toList) true))))
 else
 φ false)
 else
 φ false)
 else
 φ false)
 else
 φ false))):∃ r,φ r/\C x0 x1 x2 r:=
 mEnt (fd:=Tryz.f108) (body:=B) (V:=W) (res:=res) <|
 mAsk 7 h Aaw Aav (fun h=>
 mAsk 5 h Aaw Aav (fun h=>
 mCal 3 h (fun _ h=>h) fun r1 _ h=>
 mRet 3 h) fun h=>
 mRet 7 h) fun h=>
 mAsk 6 h dT dF (fun h=>
 mAsk 4 h dT dF (fun h=>
 mAsk 4 h dT dF (fun h=>
 mAsk 5 h dT dF (fun h=>
 mBi 5 (Aym (t:=81) (xs:=[.lit (.int .i64 x2.Value.Kind),.lit (.int .i64 x2.Value.Num),.lit (.string x2.Value.Str)]) (ys:=[.lit (.int .i64 0),.lit (.int .i64 0),.lit (.string ((⟨#[]⟩:ByteArray)))]) (l:=[(x2.Value.Kind == 0),(x2.Value.Num == 0),(x2.Value.Str.toList == ((⟨#[]⟩:ByteArray)).toList)])) <|
 mRet 3 h) fun h=>
 mRet 9 h) fun h=>
 mRet 15 h) fun h=>
 mRet 20 h) fun h=>
 mRet 25 h
end q61_
namespace q81_
noncomputable def B:Code:=(Tryz.f107.body).getD .skip
def W:List Nat:=[0,1,2,3,4]
def res (r:Bool):D×List D:=(.lit (.bool r),[])
def C (x0:api_Atom) (k1_0 k2_0:Int) (k2_1:List api_Atom) (r:Bool):Prop:=Ret env 107 [.agg [.lit (.int .i64 x0.Left.Var),.lit (.int .i64 x0.Left.Attr),.lit (.int .i64 x0.Left.Value.Kind),.lit (.int .i64 x0.Left.Value.Num),.lit (.string x0.Left.Value.Str),.lit (.int .i64 x0.Op),.lit (.int .i64 x0.Right.Var),.lit (.int .i64 x0.Right.Attr),.lit (.int .i64 x0.Right.Value.Kind),.lit (.int .i64 x0.Right.Value.Num),.lit (.string x0.Right.Value.Str)],.ref [.lit (.int .i64 k1_0)],.ref [.lit (.int .i64 k2_0),.sl (k2_1.map Aa6)]] (res r).1 (res r).2
theorem enter (x0:api_Atom) (k1_0 k2_0:Int) (k2_1:List api_Atom) (φ:Bool->Prop) (h :
 (if x0.Op<1 then
 φ true
 else
 (if 4<x0.Op then
 φ true
 else
 ∃ r1:Bool,q61_.C k1_0 k2_0 x0.Left r1 /\
 (if r1=true then
 ∃ r2:Bool,q61_.C k1_0 k2_0 x0.Right r2 /\
 φ ((not r2))
 else
 φ true)))):∃ r,φ r/\C x0 k1_0 k2_0 k2_1 r:=
 mEnt (fd:=Tryz.f107) (body:=B) (V:=W) (res:=res) <|
 mAsk 7 h dT dF (fun h=>
 mRet 25 h) fun h=>
 mAsk 3 h dT dF (fun h=>
 mRet 21 h) fun h=>
 Abv 7 h (fun _ h=>h) (fun _ h=>
 mCal 8 h (fun _ h=>h) fun r2 _ h=>
 mRet 4 h) fun _ h=>
 mRet 13 h
end q81_
namespace q22_
noncomputable def B:Code:=(Tryz.f137.body).getD .skip
def W:List Nat:=[0,1,4,5,7,8,9,16]
def res (r:Int):D×List D:=(.lit (.int .i64 r),[])
def C (x0:List api_Atom) (k1_0 k1_1:Int) (k1_2:List api_Atom) (r:Int):Prop:=Ret env 137 [.sl (x0.map Aa6),.fn 107 [.ref [.lit (.int .i64 k1_0)],.ref [.lit (.int .i64 k1_1),.sl (k1_2.map Aa6)]]] (res r).1 (res r).2
def L1 (x0:List api_Atom) (k1_0 k1_1:Int) (k1_2:List api_Atom) (z0:Int) (φ:Int->Prop):Prop:=Pt env 137 W B [1,0,1,0] [(0,.sl (x0.map Aa6)),(1,.fn 107 [.ref [.lit (.int .i64 k1_0)],.ref [.lit (.int .i64 k1_1),.sl (k1_2.map Aa6)]]),(7,.lit (.int .i64 ((x0.length:Int)))),(8,.lit (.int .i64 z0))] (Lv env 137 Tryz.f137 2 res φ)
theorem L1_step (x0:List api_Atom) (k1_0 k1_1:Int) (k1_2:List api_Atom) (z0:Int) (φ:Int->Prop) (h :
 (if z0<(x0.length:Int) then
 ∃ a1,lget x0 z0=some a1 /\
 ∃ r3:Bool,q81_.C a1 k1_0 k1_1 k1_2 r3 /\
 (if r3=true then
 φ z0
 else
 q22_.L1 x0 k1_0 k1_1 k1_2 ((IntKind.wrap .i64 (z0+1))) φ)
 else
 φ ((-1)))):L1 x0 k1_0 k1_1 k1_2 z0 φ:=
 mIn <|
 mAsk 2 h dT dF (fun h=>
 mIx 11 Aa6 h fun a1 h2 h=>
 Abv 1 h (fun _ h=>h) (fun _ h=>
 mRet 6 h) fun _ h=>
 mFin 7 h) fun h=>
 mRet 6 h
theorem enter (x0:List api_Atom) (k1_0 k1_1:Int) (k1_2:List api_Atom) (φ:Int->Prop) (h :
 q22_.L1 x0 k1_0 k1_1 k1_2 0 φ):∃ r,φ r/\C x0 k1_0 k1_1 k1_2 r:=
 mEnt (fd:=Tryz.f137) (body:=B) (V:=W) (res:=res) <|
 mLen 5 Aa6 x0 <|
 mFin 2 h
end q22_
namespace q19_
noncomputable def B:Code:=(Tryz.f106.body).getD .skip
def W:List Nat:=[0,1,4]
def res (r:Bool):D×List D:=(.lit (.bool r),[])
def C (x0:List api_Atom) (k1_0 k1_1:Int) (k1_2:List api_Atom) (r:Bool):Prop:=Ret env 106 [.sl (x0.map Aa6),.fn 107 [.ref [.lit (.int .i64 k1_0)],.ref [.lit (.int .i64 k1_1),.sl (k1_2.map Aa6)]]] (res r).1 (res r).2
theorem enter (x0:List api_Atom) (k1_0 k1_1:Int) (k1_2:List api_Atom) (φ:Bool->Prop) (h :
 ∃ r1:Int,q22_.C x0 k1_0 k1_1 k1_2 r1 /\
 φ ((decide (0<=r1)))):∃ r,φ r/\C x0 k1_0 k1_1 k1_2 r:=
 mEnt (fd:=Tryz.f106) (body:=B) (V:=W) (res:=res) <|
 mCal 6 h (fun _ h=>h) fun r1 _ h=>
 mRet 3 h
end q19_
namespace q91_
noncomputable def B:Code:=(Tryz.f90.body).getD .skip
def W:List Nat:=[0,1,2,3,4,18]
def res (r:Bool):D×List D:=(.lit (.bool r),[])
def C (x0:Int) (x1:api_Denial) (r:Bool):Prop:=Ret env 90 [.lit (.int .i64 x0),.agg [.lit (.int .i64 x1.Vars),.sl (x1.Atoms.map Aa6)]] (res r).1 (res r).2
theorem enter (x0:Int) (x1:api_Denial) (φ:Bool->Prop) (h :
 (if x1.Vars<1 then
 φ false
 else
 (if 3<x1.Vars then
 φ false
 else
 (if 20<(x1.Atoms.length:Int) then
 φ false
 else
 ∃ r1:Bool,q19_.C x1.Atoms x0 x1.Vars x1.Atoms r1 /\
 φ ((not r1)))))):∃ r,φ r/\C x0 x1 r:=
 mEnt (fd:=Tryz.f90) (body:=B) (V:=W) (res:=res) <|
 mAsk 8 h dT dF (fun h=>
 mRet 16 h) fun h=>
 mAsk 3 h dT dF (fun h=>
 mRet 12 h) fun h=>
 mLen 4 Aa6 x1.Atoms <|
 mAsk 0 h dT dF (fun h=>
 mRet 6 h) fun h=>
 mCal 8 h (fun _ h=>h) fun r1 _ h=>
 mRet 3 h
end q91_
namespace q82_
noncomputable def B:Code:=(Tryz.f64.body).getD .skip
def W:List Nat:=[0,1,2,3,4,5,9,11,18]
def res (r:Int):D×List D:=(.lit (.int .i64 r),[])
def C (x0:api_Table) (x1:api_Denial) (r:Int):Prop:=Ret env 64 [.agg [.lit (.string x0.Name),.sl (x0.Attrs.map eS),.sl (x0.Rows.map Aa1)],.agg [.lit (.int .i64 x1.Vars),.sl (x1.Atoms.map Aa6)]] (res r).1 (res r).2
theorem enter (x0:api_Table) (x1:api_Denial) (φ:Int->Prop) (h :
 ∃ r1:Int,q94_.C x0 r1 /\
 (if r1=0 then
 ∃ r2:Bool,q91_.C ((x0.Attrs.length:Int)) x1 r2 /\
 (if r2=true then
 (if x1.Vars=3 then
 (if 200<(x0.Rows.length:Int) then
 φ 3
 else
 φ 0)
 else
 φ 0)
 else
 φ 1)
 else
 φ r1)):∃ r,φ r/\C x0 x1 r:=
 mEnt (fd:=Tryz.f64) (body:=B) (V:=W) (res:=res) <|
 mCal 7 h (fun _ h=>h) fun r1 _ h=>
 Ael 4 h Ae1 Ae0 (fun h=>
 mRet 6 h) fun h=>
 mLen 6 eS x0.Attrs <|
 mCal 1 h (fun _ h=>h) fun r2 _ h=>
 Bae 3 h (fun h=>fls (Avn h)) (fun h=>id (Avm h)) (fun h=>
 mRet 3 h) fun h=>
 mAsk 3 h Aaw Aav (fun h=>
 mLen 3 Aa1 x0.Rows <|
 mCon 4 h dT dF (fun h=>
 mRet 3 h) fun h=>
 mRet 4 h) fun h=>
 mRet 13 h
end q82_
namespace q87_
noncomputable def B:Code:=(Tryz.f26.body).getD .skip
def W:List Nat:=[0,1,4,6,12,15,16,17,18,19,29]
def res (r:Int):D×List D:=(.lit (.int .i64 r),[])
def C (x0:Int) (x1:List api_FD) (r:Int):Prop:=Ret env 26 [.lit (.int .i64 x0),.sl (x1.map Abt)] (res r).1 (res r).2
def L1 (x0:Int) (x1:List api_FD) (z0:Int) (φ:Int->Prop):Prop:=Pt env 26 W B [1,1,1,0,1,0] [(0,.lit (.int .i64 x0)),(1,.sl (x1.map Abt)),(16,.sl (x1.map Abt)),(17,.lit (.int .i64 ((x1.length:Int)))),(18,.lit (.int .i64 z0))] (Lv env 26 Tryz.f26 2 res φ)
theorem L1_step (x0:Int) (x1:List api_FD) (z0:Int) (φ:Int->Prop) (h :
 (if z0<(x1.length:Int) then
 ∃ a1,lget x1 z0=some a1 /\
 0<=x0 /\
 (if (shrw .u32 (bOr .u32 a1.Lhs a1.Rhs) x0)=0 then
 q87_.L1 x0 x1 ((IntKind.wrap .i64 (z0+1))) φ
 else
 φ 1)
 else
 φ 0)):L1 x0 x1 z0 φ:=
 mIn <|
 mAsk 2 h dT dF (fun h=>
 mIx 4 Abt h fun a1 h2 h=>
 h.elim fun h3 h=>
 mBi 11 (At0 (t:=35) (q:=.u32) (q':=.i64) (i1:=(bOr .u32 a1.Lhs a1.Rhs)) h3) <|
 Ael 0 h Ae1 Ae0 (fun h=>
 mRet 5 h) fun h=>
 mFin 7 h) fun h=>
 mRet 6 h
theorem enter (x0:Int) (x1:List api_FD) (φ:Int->Prop) (h :
 (if x0<0 then
 φ 7
 else
 (if 16<x0 then
 φ 7
 else
 (if 64<(x1.length:Int) then
 φ 3
 else
 q87_.L1 x0 x1 0 φ)))):∃ r,φ r/\C x0 x1 r:=
 mEnt (fd:=Tryz.f26) (body:=B) (V:=W) (res:=res) <|
 mAsk 5 h dT dF (fun h=>
 mRet 9 h) fun h=>
 mAsk 2 h dT dF (fun h=>
 mRet 6 h) fun h=>
 mLen 6 Abt x1 <|
 mAsk 0 h dT dF (fun h=>
 mRet 5 h) fun h=>
 mLen 5 Abt x1 <|
 mFin 2 h
end q87_
namespace q99_
noncomputable def B:Code:=(Tryz.f63.body).getD .skip
def W:List Nat:=[0,1,4]
def res (r:api_Term):D×List D:=(.agg [.lit (.int .i64 r.Var),.lit (.int .i64 r.Attr),.lit (.int .i64 r.Value.Kind),.lit (.int .i64 r.Value.Num),.lit (.string r.Value.Str)],[])
def C (x0 x1:Int) (r:api_Term):Prop:=Ret env 63 [.lit (.int .i64 x0),.lit (.int .i64 x1)] (res r).1 (res r).2
theorem enter (x0 x1:Int) (φ:api_Term->Prop) (h :
 φ ((⟨x0,x1,(⟨0,0,(⟨#[]⟩:ByteArray)⟩:api_Value)⟩:api_Term))):∃ r,φ r/\C x0 x1 r:=
 mEnt (fd:=Tryz.f63) (body:=B) (V:=W) (res:=res) <|
 mRet 9 h
end q99_
namespace q95_
noncomputable def B:Code:=(Tryz.f27.body).getD .skip
def W:List Nat:=[0,1,4]
def res (r:api_Atom):D×List D:=(.agg [.lit (.int .i64 r.Left.Var),.lit (.int .i64 r.Left.Attr),.lit (.int .i64 r.Left.Value.Kind),.lit (.int .i64 r.Left.Value.Num),.lit (.string r.Left.Value.Str),.lit (.int .i64 r.Op),.lit (.int .i64 r.Right.Var),.lit (.int .i64 r.Right.Attr),.lit (.int .i64 r.Right.Value.Kind),.lit (.int .i64 r.Right.Value.Num),.lit (.string r.Right.Value.Str)],[])
def C (x0 x1:Int) (r:api_Atom):Prop:=Ret env 27 [.lit (.int .i64 x0),.lit (.int .i64 x1)] (res r).1 (res r).2
theorem enter (x0 x1:Int) (φ:api_Atom->Prop) (h :
 ∃ r1:api_Term,q99_.C 1 x1 r1 /\
 ∃ r2:api_Term,q99_.C 2 x1 r2 /\
 φ ((⟨r1,x0,r2⟩:api_Atom))):∃ r,φ r/\C x0 x1 r:=
 mEnt (fd:=Tryz.f27) (body:=B) (V:=W) (res:=res) <|
 mCal 5 h (fun _ h=>h) (hf:=(fun _=>Ab4 (Adx (Aa2 rfl (Aa2 rfl (Aa2 rfl (Aa2 rfl (Aa2 rfl Ab7)))))) rfl)) fun r1 _ h=>
 mCal 2 h (fun _ h=>h) (hf:=(fun _=>Ab4 (Adx (Aa2 rfl (Aa2 rfl (Aa2 rfl (Aa2 rfl (Aa2 rfl Ab7)))))) rfl)) fun r2 _ h=>
 mRet 3 h
end q95_
namespace q88_
noncomputable def B:Code:=(Tryz.f10.body).getD .skip
def W:List Nat:=[0,1,3,4,5,6,7,9,10,12,18,25,26,27,28,34,35,36,37]
def res (r:List api_Denial×Int):D×List D:=(.tup [.own (r.1.map Ad9),.lit (.int .i64 r.2)],[])
def C (x0:Int) (x1:api_FD) (r:List api_Denial×Int):Prop:=Ret env 10 [.lit (.int .i64 x0),.agg [.lit (.int .u32 x1.Lhs),.lit (.int .u32 x1.Rhs)]] (res r).1 (res r).2
def L1 (x1:api_FD) (z0:List api_Denial) (r2:List Int) (z1:Int) (φ:List api_Denial×Int->Prop):Prop:=Pt env 10 W B [1,1,1,0,1,0] [(1,.agg [.lit (.int .u32 x1.Lhs),.lit (.int .u32 x1.Rhs)]),(3,.box [.lit (.int .u32 x1.Lhs),.lit (.int .u32 x1.Rhs)]),(7,.own (z0.map Ad9)),(25,.own (r2.map (eI .i64))),(26,.lit (.int .i64 ((r2.length:Int)))),(27,.lit (.int .i64 z1))] (Lv env 10 Tryz.f10 2 res φ)
def L2 (x1:api_FD) (z0:List api_Denial) (a3:Int) (z1:List api_Atom) (r2:List Int) (z2:Int) (r5:List Int) (z3:Int) (φ:List api_Denial×Int->Prop):Prop:=Pt env 10 W B [1,1,1,0,1,0,0,1,1,0,0,1,1,0,1,0] [(1,.agg [.lit (.int .u32 x1.Lhs),.lit (.int .u32 x1.Rhs)]),(3,.box [.lit (.int .u32 x1.Lhs),.lit (.int .u32 x1.Rhs)]),(7,.own (z0.map Ad9)),(9,.lit (.int .i64 a3)),(10,.box [.lit (.int .i64 2),.own (z1.map Aa6)]),(25,.own (r2.map (eI .i64))),(26,.lit (.int .i64 ((r2.length:Int)))),(27,.lit (.int .i64 z2)),(34,.own (r5.map (eI .i64))),(35,.lit (.int .i64 ((r5.length:Int)))),(36,.lit (.int .i64 z3))] (Lv env 10 Tryz.f10 2 res φ)
theorem L1_step (x1:api_FD) (z0:List api_Denial) (r2:List Int) (z1:Int) (φ:List api_Denial×Int->Prop) (h :
 (if z1<(r2.length:Int) then
 ∃ a3,lget r2 z1=some a3 /\
 ∃ r5:List Int,q69_.C x1.Lhs r5 /\
 q88_.L2 x1 z0 a3 ([]) r2 z1 r5 0 φ
 else
 φ ((z0,0)))):L1 x1 z0 r2 z1 φ:=
 mIn <|
 mAsk 2 h dT dF (fun h=>
 mIy 4 (eI .i64) h fun a3 h4 h=>
 mLd 0 (eI .i64) h4 <|
 mCal 10 h (fun _ h=>h) (hf:=(fun _=>Ab4 (Abh (e:=(eI .i64)) (fun _=>rfl)) rfl)) fun r5 _ h=>
 mLen 0 (eI .i64) r5 <|
 mFin 2 h) fun h=>
 mRet 8 h
theorem L2_step (x1:api_FD) (z0:List api_Denial) (a3:Int) (z1:List api_Atom) (r2:List Int) (z2:Int) (r5:List Int) (z3:Int) (φ:List api_Denial×Int->Prop) (h :
 (if z3<(r5.length:Int) then
 ∃ a6,lget r5 z3=some a6 /\
 ∃ r8:api_Atom,q95_.C 1 a6 r8 /\
 (z1.length+1)*104<=140737488355328 /\
 q88_.L2 x1 z0 a3 ((z1++[r8])) r2 z2 r5 ((IntKind.wrap .i64 (z3+1))) φ
 else
 ∃ r10:api_Atom,q95_.C 2 a3 r10 /\
 (z1.length+1)*104<=140737488355328 /\
 (z0.length+1)*32<=140737488355328 /\
 q88_.L1 x1 ((z0++[(⟨2,(z1++[r10])⟩:api_Denial)])) r2 ((IntKind.wrap .i64 (z2+1))) φ)):L2 x1 z0 a3 z1 r2 z2 r5 z3 φ:=
 mIn <|
 mAsk 2 h dT dF (fun h=>
 mIy 4 (eI .i64) h fun a6 h7 h=>
 mLd 0 (eI .i64) h7 <|
 mLo 6 h (fun _ h=>h) (hf:=(fun _=>Ajg (Adx (Aa2 rfl (Aa2 rfl (Aa2 rfl (Aa2 rfl (Aa2 rfl (Aa2 rfl (Aa2 rfl (Aa2 rfl (Aa2 rfl (Aa2 rfl (Aa2 rfl Ab7)))))))))))))) fun r8 _ h=>
 mApp 1 Aa6 z1 ([r8]) h fun h=>
 mFin 7 h) fun h=>
 mLo 7 h (fun _ h=>h) (hf:=(fun _=>Ajg (Adx (Aa2 rfl (Aa2 rfl (Aa2 rfl (Aa2 rfl (Aa2 rfl (Aa2 rfl (Aa2 rfl (Aa2 rfl (Aa2 rfl (Aa2 rfl (Aa2 rfl Ab7)))))))))))))) fun r10 _ h=>
 mApp 1 Aa6 z1 ([r10]) h fun h=>
 mApp 7 Ad9 z0 ([(⟨2,(z1++[r10])⟩:api_Denial)]) h fun h=>
 mFin 6 h
theorem enter (x0:Int) (x1:api_FD) (φ:List api_Denial×Int->Prop) (h :
 ∃ r1:Int,q87_.C x0 ([x1]) r1 /\
 (if r1=0 then
 ∃ r2:List Int,q69_.C ((Aoy .u32 x1.Rhs x1.Lhs)) r2 /\
 q88_.L1 x1 ([]) r2 0 φ
 else
 φ (([],r1)))):∃ r,φ r/\C x0 x1 r:=
 mEnt (fd:=Tryz.f10) (body:=B) (V:=W) (res:=res) <|
 mCal 9 h (fun _ h=>h) (hr:=by exact (pr_k (Agr (Aj3 (s:=15) (ps:=[]) (l:=[x1]) (e:=Abt) (e':=Abt) (fun _=>rfl) (by kernel_rfl)) Ajm))) fun r1 _ h=>
 Ael 4 h Ae1 Ae0 (fun h=>
 mRet 7 h) fun h=>
 mCal 12 h (fun _ h=>h) (hf:=(fun _=>Ab4 (Abh (e:=(eI .i64)) (fun _=>rfl)) rfl)) fun r2 _ h=>
 mLen 0 (eI .i64) r2 <|
 mFin 2 h
end q88_
namespace q41_
noncomputable def B:Code:=(Tryz.f11.body).getD .skip
def W:List Nat:=[0,1,2,4,5,6,8,9,10,12,13,14,15,16,26,27,28,29,30]
def res (r:List (List Int)×Bool):D×List D:=(.tup [.own (r.1.map (eSl (eI .i64))),.lit (.bool r.2)],[])
def C (x0:api_Table) (x1:List api_Denial) (r:List (List Int)×Bool):Prop:=Ret env 11 [.agg [.lit (.string x0.Name),.sl (x0.Attrs.map eS),.sl (x0.Rows.map Aa1)],.sl (x1.map Abz)] (res r).1 (res r).2
def L1 (x0:api_Table) (x1:List api_Denial) (z0:List (List Int)) (z1:Int) (φ:List (List Int)×Bool->Prop):Prop:=Pt env 11 W B [1,1,0,1,0] [(0,.agg [.lit (.string x0.Name),.sl (x0.Attrs.map eS),.sl (x0.Rows.map Aa1)]),(1,.sl (x1.map Abz)),(2,.box [.lit (.string x0.Name),.sl (x0.Attrs.map eS),.sl (x0.Rows.map Aa1)]),(6,.own (z0.map (eSl (eI .i64)))),(13,.sl (x1.map Abz)),(14,.lit (.int .i64 ((x1.length:Int)))),(15,.lit (.int .i64 z1))] (Lv env 11 Tryz.f11 2 res φ)
def L2 (x0:api_Table) (x1:List api_Denial) (z0:List (List Int)) (r3:List (List Int)×Int) (z1 z2:Int) (φ:List (List Int)×Bool->Prop):Prop:=Pt env 11 W B [1,1,0,1,0,0,1,1,0,0,1,1,1,1,0] [(0,.agg [.lit (.string x0.Name),.sl (x0.Attrs.map eS),.sl (x0.Rows.map Aa1)]),(1,.sl (x1.map Abz)),(2,.box [.lit (.string x0.Name),.sl (x0.Attrs.map eS),.sl (x0.Rows.map Aa1)]),(6,.own (z0.map (eSl (eI .i64)))),(9,.sl (r3.1.map (eSl (eI .i64)))),(13,.sl (x1.map Abz)),(14,.lit (.int .i64 ((x1.length:Int)))),(15,.lit (.int .i64 z1)),(27,.sl (r3.1.map (eSl (eI .i64)))),(28,.lit (.int .i64 ((r3.1.length:Int)))),(29,.lit (.int .i64 z2))] (Lv env 11 Tryz.f11 2 res φ)
theorem L1_step (x0:api_Table) (x1:List api_Denial) (z0:List (List Int)) (z1:Int) (φ:List (List Int)×Bool->Prop) (h :
 (if z1<(x1.length:Int) then
 ∃ a1,lget x1 z1=some a1 /\
 ∃ r3:List (List Int)×Int,q52_.C x0 a1 r3 /\
 (if r3.2=0 then
 q41_.L2 x0 x1 z0 r3 z1 0 φ
 else
 φ (([],false)))
 else
 φ ((z0,true)))):L1 x0 x1 z0 z1 φ:=
 mIn <|
 mAsk 2 h dT dF (fun h=>
 mIx 4 Abz h fun a1 h2 h=>
 Ap8 7 h (fun _ h=>h) (fun (r3:List (List Int)×Int)=>Amb rfl (Abl (Ac0 (e:=(eSl (eI .i64))) (e':=(eSl (eI .i64))) (fun _=>rfl) r3.1) (Abl rfl Afn))) (hf:=(fun _=>Ab6)) fun r3 _ h=>
 Ael 8 h Ae1 Ae0 (fun h=>
 mRet 6 h) fun h=>
 mLen 5 (eSl (eI .i64)) r3.1 <|
 mFin 2 h) fun h=>
 mRet 8 h
theorem L2_step (x0:api_Table) (x1:List api_Denial) (z0:List (List Int)) (r3:List (List Int)×Int) (z1 z2:Int) (φ:List (List Int)×Bool->Prop) (h :
 (if z2<(r3.1.length:Int) then
 ∃ a4,lget r3.1 z2=some a4 /\
 ∃ r6:List (List Int),q77_.C a4 z0 r6 /\
 q41_.L2 x0 x1 r6 r3 z1 ((IntKind.wrap .i64 (z2+1))) φ
 else
 q41_.L1 x0 x1 z0 ((IntKind.wrap .i64 (z1+1))) φ)):L2 x0 x1 z0 r3 z1 z2 φ:=
 mIn <|
 mAsk 2 h dT dF (fun h=>
 mIx 4 (eSl (eI .i64)) h fun a4 h5 h=>
 mCal 6 h (fun _ h=>h) (hf:=(fun _=>Ab6)) fun r6 _ h=>
 mFin 6 h) fun h=>
 mFin 7 h
theorem enter (x0:api_Table) (x1:List api_Denial) (φ:List (List Int)×Bool->Prop) (h :
 q41_.L1 x0 x1 ([]) 0 φ):∃ r,φ r/\C x0 x1 r:=
 mEnt (fd:=Tryz.f11) (body:=B) (V:=W) (res:=res) <|
 mLen 10 Abz x1 <|
 mFin 2 h
end q41_
namespace q45_
noncomputable def B:Code:=(Tryz.f88.body).getD .skip
def W:List Nat:=[0,1,2]
def res (r:Bool):D×List D:=(.lit (.bool r),[])
def C (x0:api_Cell) (r:Bool):Prop:=Ret env 88 [.agg [.lit (.bool x0.Any),.lit (.int .i64 x0.Value.Kind),.lit (.int .i64 x0.Value.Num),.lit (.string x0.Value.Str)]] (res r).1 (res r).2
theorem enter (x0:api_Cell) (φ:Bool->Prop) (h :
 (if x0.Any=true then
 (if (and (x0.Value.Kind == 0) (and (x0.Value.Num == 0) (and (x0.Value.Str.toList == ((⟨#[]⟩:ByteArray)).toList) true)))=true then
 (if x0.Any=true then
 φ false
 else
 ∃ r1:Bool,q93_.C x0.Value r1 /\
 φ ((not r1)))
 else
 φ true)
 else
 (if x0.Any=true then
 φ false
 else
 ∃ r2:Bool,q93_.C x0.Value r2 /\
 φ ((not r2))))):∃ r,φ r/\C x0 r:=
 mEnt (fd:=Tryz.f88) (body:=B) (V:=W) (res:=res) <|
 mAsk 6 h id fls (fun h=>
 Bf9 4 h (fun h=>fls (Avn h)) Avm (hd:=(Asz (t:=81) (xs:=[.lit (.int .i64 x0.Value.Kind),.lit (.int .i64 x0.Value.Num),.lit (.string x0.Value.Str)]) (ys:=[.lit (.int .i64 0),.lit (.int .i64 0),.lit (.string ((⟨#[]⟩:ByteArray)))]) (l:=[(x0.Value.Kind == 0),(x0.Value.Num == 0),(x0.Value.Str.toList == ((⟨#[]⟩:ByteArray)).toList)]))) (fun h=>
 mRet 14 h) fun h=>
 mAsk 3 h id fls (fun h=>
 mRet 10 h) fun h=>
 mCal 4 h (fun _ h=>h) fun r1 _ h=>
 mRet 5 h) fun h=>
 mAsk 8 h id fls (fun h=>
 mRet 10 h) fun h=>
 mCal 4 h (fun _ h=>h) fun r2 _ h=>
 mRet 5 h
end q45_
namespace q17_
noncomputable def B:Code:=(Tryz.f105.body).getD .skip
def W:List Nat:=[0,1,4,5,7,8,9,16]
def res (r:Int):D×List D:=(.lit (.int .i64 r),[])
def C (x0:List api_Cell) (r:Int):Prop:=Ret env 105 [.sl (x0.map Aa5),.fn 88 []] (res r).1 (res r).2
def L1 (x0:List api_Cell) (z0:Int) (φ:Int->Prop):Prop:=Pt env 105 W B [1,0,1,0] [(0,.sl (x0.map Aa5)),(1,.fn 88 []),(7,.lit (.int .i64 ((x0.length:Int)))),(8,.lit (.int .i64 z0))] (Lv env 105 Tryz.f105 2 res φ)
theorem L1_step (x0:List api_Cell) (z0:Int) (φ:Int->Prop) (h :
 (if z0<(x0.length:Int) then
 ∃ a1,lget x0 z0=some a1 /\
 ∃ r3:Bool,q45_.C a1 r3 /\
 (if r3=true then
 φ z0
 else
 q17_.L1 x0 ((IntKind.wrap .i64 (z0+1))) φ)
 else
 φ ((-1)))):L1 x0 z0 φ:=
 mIn <|
 mAsk 2 h dT dF (fun h=>
 mIx 11 Aa5 h fun a1 h2 h=>
 Abv 1 h (fun _ h=>h) (fun _ h=>
 mRet 6 h) fun _ h=>
 mFin 7 h) fun h=>
 mRet 6 h
theorem enter (x0:List api_Cell) (φ:Int->Prop) (h :
 q17_.L1 x0 0 φ):∃ r,φ r/\C x0 r:=
 mEnt (fd:=Tryz.f105) (body:=B) (V:=W) (res:=res) <|
 mLen 5 Aa5 x0 <|
 mFin 2 h
end q17_
namespace q10_
noncomputable def B:Code:=(Tryz.f87.body).getD .skip
def W:List Nat:=[0,1,4]
def res (r:Bool):D×List D:=(.lit (.bool r),[])
def C (x0:List api_Cell) (r:Bool):Prop:=Ret env 87 [.sl (x0.map Aa5),.fn 88 []] (res r).1 (res r).2
theorem enter (x0:List api_Cell) (φ:Bool->Prop) (h :
 ∃ r1:Int,q17_.C x0 r1 /\
 φ ((decide (0<=r1)))):∃ r,φ r/\C x0 r:=
 mEnt (fd:=Tryz.f87) (body:=B) (V:=W) (res:=res) <|
 mCal 6 h (fun _ h=>h) fun r1 _ h=>
 mRet 3 h
end q10_
namespace q53_
noncomputable def B:Code:=(Tryz.f58.body).getD .skip
def W:List Nat:=[0,1,3,4,5,7,34,36,37,38,39,55]
def res (r:Bool):D×List D:=(.lit (.bool r),[])
def C (x0:Int) (x1:api_CFD) (r:Bool):Prop:=Ret env 58 [.lit (.int .i64 x0),.agg [.sl (x1.Lhs.map (eI .i64)),.lit (.int .i64 x1.Rhs),.sl (x1.Pattern.map Aa5)]] (res r).1 (res r).2
def L1 (x0:Int) (x1:api_CFD) (z0 z1:Int) (φ:Bool->Prop):Prop:=Pt env 58 W B [1,1,1,0,1,0] [(0,.lit (.int .i64 x0)),(1,.agg [.sl (x1.Lhs.map (eI .i64)),.lit (.int .i64 x1.Rhs),.sl (x1.Pattern.map Aa5)]),(3,.box [.sl (x1.Lhs.map (eI .i64)),.lit (.int .i64 x1.Rhs),.sl (x1.Pattern.map Aa5)]),(5,.lit (.int .i64 z0)),(36,.sl (x1.Lhs.map (eI .i64))),(37,.lit (.int .i64 ((x1.Lhs.length:Int)))),(38,.lit (.int .i64 z1))] (Lv env 58 Tryz.f58 2 res φ)
theorem L1_step (x0:Int) (x1:api_CFD) (z0 z1:Int) (φ:Bool->Prop) (h :
 (if z1<(x1.Lhs.length:Int) then
 ∃ a1,lget x1.Lhs z1=some a1 /\
 (if a1<=z0 then
 φ false
 else
 (if x0<=a1 then
 φ false
 else
 (if a1=x1.Rhs then
 φ false
 else
 q53_.L1 x0 x1 a1 ((IntKind.wrap .i64 (z1+1))) φ)))
 else
 ∃ r3:Bool,q10_.C x1.Pattern r3 /\
 φ ((not r3)))):L1 x0 x1 z0 z1 φ:=
 mIn <|
 mAsk 2 h dT dF (fun h=>
 mIx 4 (eI .i64) h fun a1 h2 h=>
 mAsk 6 h dT dF (fun h=>
 mRet 16 h) fun h=>
 mAsk 3 h dT dF (fun h=>
 mRet 12 h) fun h=>
 mAsk 5 h Aaw Aav (fun h=>
 mRet 6 h) fun h=>
 mFin 12 h) fun h=>
 mCal 6 h (fun _ h=>h) fun r3 _ h=>
 mRet 3 h
theorem enter (x0:Int) (x1:api_CFD) (φ:Bool->Prop) (h :
 (if x0<0 then
 φ false
 else
 (if 16<x0 then
 φ false
 else
 (if x1.Rhs<0 then
 φ false
 else
 (if x0<=x1.Rhs then
 φ false
 else
 (if (x1.Pattern.length:Int)=(IntKind.wrap .i64 ((x1.Lhs.length:Int)+1)) then
 q53_.L1 x0 x1 ((-1)) 0 φ
 else
 φ false)))))):∃ r,φ r/\C x0 x1 r:=
 mEnt (fd:=Tryz.f58) (body:=B) (V:=W) (res:=res) <|
 mAsk 6 h dT dF (fun h=>
 mRet 30 h) fun h=>
 mAsk 2 h dT dF (fun h=>
 mRet 27 h) fun h=>
 mAsk 4 h dT dF (fun h=>
 mRet 22 h) fun h=>
 mAsk 5 h dT dF (fun h=>
 mRet 16 h) fun h=>
 mLen 4 Aa5 x1.Pattern <|
 mLen 2 (eI .i64) x1.Lhs <|
 Ael 1 h Ae1 Ae0 (fun h=>
 mRet 6 h) fun h=>
 mLen 10 (eI .i64) x1.Lhs <|
 mFin 2 h
end q53_
namespace q62_
noncomputable def B:Code:=(Tryz.f60.body).getD .skip
def W:List Nat:=[0,1,2,3,4]
def res (r:Bool):D×List D:=(.lit (.bool r),[])
def C (x0:api_Cell) (x1:api_Value) (r:Bool):Prop:=Ret env 60 [.agg [.lit (.bool x0.Any),.lit (.int .i64 x0.Value.Kind),.lit (.int .i64 x0.Value.Num),.lit (.string x0.Value.Str)],.agg [.lit (.int .i64 x1.Kind),.lit (.int .i64 x1.Num),.lit (.string x1.Str)]] (res r).1 (res r).2
theorem enter (x0:api_Cell) (x1:api_Value) (φ:Bool->Prop) (h :
 (if x0.Any=true then
 φ true
 else
 φ ((and (x0.Value.Kind == x1.Kind) (and (x0.Value.Num == x1.Num) (and (x0.Value.Str.toList == x1.Str.toList) true)))))):∃ r,φ r/\C x0 x1 r:=
 mEnt (fd:=Tryz.f60) (body:=B) (V:=W) (res:=res) <|
 mAsk 7 h id fls (fun h=>
 mRet 8 h) fun h=>
 mBi 4 (Aym (t:=81) (xs:=[.lit (.int .i64 x0.Value.Kind),.lit (.int .i64 x0.Value.Num),.lit (.string x0.Value.Str)]) (ys:=[.lit (.int .i64 x1.Kind),.lit (.int .i64 x1.Num),.lit (.string x1.Str)]) (l:=[(x0.Value.Kind == x1.Kind),(x0.Value.Num == x1.Num),(x0.Value.Str.toList == x1.Str.toList)])) <|
 mRet 3 h
end q62_
namespace q63_
noncomputable def B:Code:=(Tryz.f59.body).getD .skip
def W:List Nat:=[0,1,2,4,5,6,8,9,10,11,25]
def res (r:Bool):D×List D:=(.lit (.bool r),[])
def C (x0:api_CFD) (x1:List api_Value) (r:Bool):Prop:=Ret env 59 [.agg [.sl (x0.Lhs.map (eI .i64)),.lit (.int .i64 x0.Rhs),.sl (x0.Pattern.map Aa5)],.sl (x1.map Aa3)] (res r).1 (res r).2
def L1 (x0:api_CFD) (x1:List api_Value) (z0:Int) (φ:Bool->Prop):Prop:=Pt env 59 W B [1,0,1,0] [(0,.agg [.sl (x0.Lhs.map (eI .i64)),.lit (.int .i64 x0.Rhs),.sl (x0.Pattern.map Aa5)]),(1,.sl (x1.map Aa3)),(2,.box [.sl (x0.Lhs.map (eI .i64)),.lit (.int .i64 x0.Rhs),.sl (x0.Pattern.map Aa5)]),(8,.sl (x0.Lhs.map (eI .i64))),(9,.lit (.int .i64 ((x0.Lhs.length:Int)))),(10,.lit (.int .i64 z0))] (Lv env 59 Tryz.f59 2 res φ)
theorem L1_step (x0:api_CFD) (x1:List api_Value) (z0:Int) (φ:Bool->Prop) (h :
 (if z0<(x0.Lhs.length:Int) then
 ∃ a1,lget x0.Lhs z0=some a1 /\
 ∃ a3,lget x0.Pattern z0=some a3 /\
 ∃ a5,lget x1 a1=some a5 /\
 ∃ r7:Bool,q62_.C a3 a5 r7 /\
 (if r7=true then
 q63_.L1 x0 x1 ((IntKind.wrap .i64 (z0+1))) φ
 else
 φ false)
 else
 φ true)):L1 x0 x1 z0 φ:=
 mIn <|
 mAsk 2 h dT dF (fun h=>
 mIx 5 (eI .i64) h fun a1 h2 h=>
 mIx 8 Aa5 h fun a3 h4 h=>
 mIx 3 Aa3 h fun a5 h6 h=>
 Abv 1 h (fun _ h=>h) (fun _ h=>
 mFin 8 h) fun _ h=>
 mRet 6 h) fun h=>
 mRet 6 h
theorem enter (x0:api_CFD) (x1:List api_Value) (φ:Bool->Prop) (h :
 q63_.L1 x0 x1 0 φ):∃ r,φ r/\C x0 x1 r:=
 mEnt (fd:=Tryz.f59) (body:=B) (V:=W) (res:=res) <|
 mLen 7 (eI .i64) x0.Lhs <|
 mFin 2 h
end q63_
namespace q47_
noncomputable def B:Code:=(Tryz.f89.body).getD .skip
def W:List Nat:=[0,1,2,4]
def res (r:Bool):D×List D:=(.lit (.bool r),[])
def C (x0:Int) (k1_0 k2_0:List api_Value) (r:Bool):Prop:=Ret env 89 [.lit (.int .i64 x0),.ref [.sl (k1_0.map Aa3)],.ref [.sl (k2_0.map Aa3)]] (res r).1 (res r).2
theorem enter (x0:Int) (k1_0 k2_0:List api_Value) (φ:Bool->Prop) (h :
 ∃ a1,lget k1_0 x0=some a1 /\
 ∃ a3,lget k2_0 x0=some a3 /\
 φ ((not (and (a1.Kind == a3.Kind) (and (a1.Num == a3.Num) (and (a1.Str.toList == a3.Str.toList) true)))))):∃ r,φ r/\C x0 k1_0 k2_0 r:=
 mEnt (fd:=Tryz.f89) (body:=B) (V:=W) (res:=res) <|
 mIx 6 Aa3 h fun a1 h2 h=>
 mIx 3 Aa3 h fun a3 h4 h=>
 mBi 1 (Asz (t:=81) (xs:=[.lit (.int .i64 a1.Kind),.lit (.int .i64 a1.Num),.lit (.string a1.Str)]) (ys:=[.lit (.int .i64 a3.Kind),.lit (.int .i64 a3.Num),.lit (.string a3.Str)]) (l:=[(a1.Kind == a3.Kind),(a1.Num == a3.Num),(a1.Str.toList == a3.Str.toList)])) <|
 mRet 2 h
end q47_
namespace q29_
noncomputable def B:Code:=(Tryz.f82.body).getD .skip
def W:List Nat:=[0,1,4,5,7,8,9,16]
def res (r:Int):D×List D:=(.lit (.int .i64 r),[])
def C (x0:List Int) (k1_0 k1_1:List api_Value) (r:Int):Prop:=Ret env 82 [.sl (x0.map (eI .i64)),.fn 89 [.ref [.sl (k1_0.map Aa3)],.ref [.sl (k1_1.map Aa3)]]] (res r).1 (res r).2
def L1 (x0:List Int) (k1_0 k1_1:List api_Value) (z0:Int) (φ:Int->Prop):Prop:=Pt env 82 W B [1,0,1,0] [(0,.sl (x0.map (eI .i64))),(1,.fn 89 [.ref [.sl (k1_0.map Aa3)],.ref [.sl (k1_1.map Aa3)]]),(7,.lit (.int .i64 ((x0.length:Int)))),(8,.lit (.int .i64 z0))] (Lv env 82 Tryz.f82 2 res φ)
theorem L1_step (x0:List Int) (k1_0 k1_1:List api_Value) (z0:Int) (φ:Int->Prop) (h :
 (if z0<(x0.length:Int) then
 ∃ a1,lget x0 z0=some a1 /\
 ∃ r3:Bool,q47_.C a1 k1_0 k1_1 r3 /\
 (if r3=true then
 φ z0
 else
 q29_.L1 x0 k1_0 k1_1 ((IntKind.wrap .i64 (z0+1))) φ)
 else
 φ ((-1)))):L1 x0 k1_0 k1_1 z0 φ:=
 mIn <|
 mAsk 2 h dT dF (fun h=>
 mIx 11 (eI .i64) h fun a1 h2 h=>
 Abv 1 h (fun _ h=>h) (fun _ h=>
 mRet 6 h) fun _ h=>
 mFin 7 h) fun h=>
 mRet 6 h
theorem enter (x0:List Int) (k1_0 k1_1:List api_Value) (φ:Int->Prop) (h :
 q29_.L1 x0 k1_0 k1_1 0 φ):∃ r,φ r/\C x0 k1_0 k1_1 r:=
 mEnt (fd:=Tryz.f82) (body:=B) (V:=W) (res:=res) <|
 mLen 5 (eI .i64) x0 <|
 mFin 2 h
end q29_
namespace q26_
noncomputable def B:Code:=(Tryz.f51.body).getD .skip
def W:List Nat:=[0,1,4]
def res (r:Bool):D×List D:=(.lit (.bool r),[])
def C (x0:List Int) (k1_0 k1_1:List api_Value) (r:Bool):Prop:=Ret env 51 [.sl (x0.map (eI .i64)),.fn 89 [.ref [.sl (k1_0.map Aa3)],.ref [.sl (k1_1.map Aa3)]]] (res r).1 (res r).2
theorem enter (x0:List Int) (k1_0 k1_1:List api_Value) (φ:Bool->Prop) (h :
 ∃ r1:Int,q29_.C x0 k1_0 k1_1 r1 /\
 φ ((decide (0<=r1)))):∃ r,φ r/\C x0 k1_0 k1_1 r:=
 mEnt (fd:=Tryz.f51) (body:=B) (V:=W) (res:=res) <|
 mCal 6 h (fun _ h=>h) fun r1 _ h=>
 mRet 3 h
end q26_
namespace q64_
noncomputable def B:Code:=(Tryz.f62.body).getD .skip
def W:List Nat:=[0,1,2,3,4,5,6]
def res (r:Bool):D×List D:=(.lit (.bool r),[])
def C (x0:api_CFD) (x1 x2:List api_Value) (r:Bool):Prop:=Ret env 62 [.agg [.sl (x0.Lhs.map (eI .i64)),.lit (.int .i64 x0.Rhs),.sl (x0.Pattern.map Aa5)],.sl (x1.map Aa3),.sl (x2.map Aa3)] (res r).1 (res r).2
theorem enter (x0:api_CFD) (x1 x2:List api_Value) (φ:Bool->Prop) (h :
 ∃ a1,lget x1 x0.Rhs=some a1 /\
 ∃ a3,lget x2 x0.Rhs=some a3 /\
 (if (and (a1.Kind == a3.Kind) (and (a1.Num == a3.Num) (and (a1.Str.toList == a3.Str.toList) true)))=true then
 φ false
 else
 ∃ r5:Bool,q26_.C x0.Lhs x1 x2 r5 /\
 φ ((not r5)))):∃ r,φ r/\C x0 x1 x2 r:=
 mEnt (fd:=Tryz.f62) (body:=B) (V:=W) (res:=res) <|
 mIx 10 Aa3 h fun a1 h2 h=>
 mIx 4 Aa3 h fun a3 h4 h=>
 Bf9 1 h (fun h=>fls (Avn h)) Avm (hd:=(Asz (t:=81) (xs:=[.lit (.int .i64 a1.Kind),.lit (.int .i64 a1.Num),.lit (.string a1.Str)]) (ys:=[.lit (.int .i64 a3.Kind),.lit (.int .i64 a3.Num),.lit (.string a3.Str)]) (l:=[(a1.Kind == a3.Kind),(a1.Num == a3.Num),(a1.Str.toList == a3.Str.toList)]))) (fun h=>
 mCal 4 h (fun _ h=>h) fun r5 _ h=>
 mRet 4 h) fun h=>
 mRet 9 h
end q64_
namespace q54_
noncomputable def B:Code:=(Tryz.f61.body).getD .skip
def W:List Nat:=[0,1,2]
def res (r:api_Cell):D×List D:=(.agg [.lit (.bool r.Any),.lit (.int .i64 r.Value.Kind),.lit (.int .i64 r.Value.Num),.lit (.string r.Value.Str)],[])
def C (x0:api_CFD) (r:api_Cell):Prop:=Ret env 61 [.agg [.sl (x0.Lhs.map (eI .i64)),.lit (.int .i64 x0.Rhs),.sl (x0.Pattern.map Aa5)]] (res r).1 (res r).2
theorem enter (x0:api_CFD) (φ:api_Cell->Prop) (h :
 ∃ a1,lget x0.Pattern ((x0.Lhs.length:Int))=some a1 /\
 φ a1):∃ r,φ r/\C x0 r:=
 mEnt (fd:=Tryz.f61) (body:=B) (V:=W) (res:=res) <|
 mLen 9 (eI .i64) x0.Lhs <|
 mIx 0 Aa5 h fun a1 h2 h=>
 mRet 3 h
end q54_
namespace q39_
noncomputable def B:Code:=(Tryz.f25.body).getD .skip
def W:List Nat:=[0,1,2,3,4,5,6,7,9,10,11,12,13,15,19,26,28,29,30,31,37,43,44,45,46,59,69,70,71,72,80]
def res (r:List (List Int)×Int):D×List D:=(.tup [.own (r.1.map (eSl (eI .i64))),.lit (.int .i64 r.2)],[])
def C (x0:api_Table) (x1:api_CFD) (r:List (List Int)×Int):Prop:=Ret env 25 [.agg [.lit (.string x0.Name),.sl (x0.Attrs.map eS),.sl (x0.Rows.map Aa1)],.agg [.sl (x1.Lhs.map (eI .i64)),.lit (.int .i64 x1.Rhs),.sl (x1.Pattern.map Aa5)]] (res r).1 (res r).2
def L1 (x0:api_Table) (x1:api_CFD) (z0:List api_Row) (z1:Int) (φ:List (List Int)×Int->Prop):Prop:=Pt env 25 W B [1,1,1,1,0,1,0] [(0,.agg [.lit (.string x0.Name),.sl (x0.Attrs.map eS),.sl (x0.Rows.map Aa1)]),(1,.agg [.sl (x1.Lhs.map (eI .i64)),.lit (.int .i64 x1.Rhs),.sl (x1.Pattern.map Aa5)]),(2,.box [.lit (.string x0.Name),.sl (x0.Attrs.map eS),.sl (x0.Rows.map Aa1)]),(3,.box [.sl (x1.Lhs.map (eI .i64)),.lit (.int .i64 x1.Rhs),.sl (x1.Pattern.map Aa5)]),(7,.own (z0.map Aa1)),(28,.sl (x0.Rows.map Aa1)),(29,.lit (.int .i64 ((x0.Rows.length:Int)))),(30,.lit (.int .i64 z1))] (Lv env 25 Tryz.f25 2 res φ)
def L2 (x0:api_Table) (x1:api_CFD) (z0:List api_Row) (z1:Int) (φ:List (List Int)×Int->Prop):Prop:=Pt env 25 W B [1,1,1,1,0,1,0,0,1,1,1] [(0,.agg [.lit (.string x0.Name),.sl (x0.Attrs.map eS),.sl (x0.Rows.map Aa1)]),(1,.agg [.sl (x1.Lhs.map (eI .i64)),.lit (.int .i64 x1.Rhs),.sl (x1.Pattern.map Aa5)]),(2,.box [.lit (.string x0.Name),.sl (x0.Attrs.map eS),.sl (x0.Rows.map Aa1)]),(3,.box [.sl (x1.Lhs.map (eI .i64)),.lit (.int .i64 x1.Rhs),.sl (x1.Pattern.map Aa5)]),(7,.own (z0.map Aa1)),(28,.sl (x0.Rows.map Aa1)),(29,.lit (.int .i64 ((x0.Rows.length:Int)))),(30,.lit (.int .i64 z1))] (Lv env 25 Tryz.f25 2 res φ)
def L3 (x1:api_CFD) (z0:List api_Row) (z1 z2:List (List Int)) (z3:Int) (φ:List (List Int)×Int->Prop):Prop:=Pt env 25 W B [1,1,1,1,1,1,0,1,0] [(1,.agg [.sl (x1.Lhs.map (eI .i64)),.lit (.int .i64 x1.Rhs),.sl (x1.Pattern.map Aa5)]),(3,.box [.sl (x1.Lhs.map (eI .i64)),.lit (.int .i64 x1.Rhs),.sl (x1.Pattern.map Aa5)]),(7,.own (z0.map Aa1)),(10,.own (z1.map (eOw (eI .i64)))),(11,.own (z2.map (eOw (eI .i64)))),(43,.alias 7 []),(44,.lit (.int .i64 ((z0.length:Int)))),(45,.lit (.int .i64 z3))] (Lv env 25 Tryz.f25 2 res φ)
def L5 (x1:api_CFD) (z0:List api_Row) (z1 z2:List (List Int)) (z3:Int) (a7:api_Row) (z4:Int) (φ:List (List Int)×Int->Prop):Prop:=Pt env 25 W B [1,1,1,1,1,1,0,1,0,0,1,1,0,0,1,1,0] [(1,.agg [.sl (x1.Lhs.map (eI .i64)),.lit (.int .i64 x1.Rhs),.sl (x1.Pattern.map Aa5)]),(3,.box [.sl (x1.Lhs.map (eI .i64)),.lit (.int .i64 x1.Rhs),.sl (x1.Pattern.map Aa5)]),(7,.own (z0.map Aa1)),(10,.own (z1.map (eOw (eI .i64)))),(11,.own (z2.map (eOw (eI .i64)))),(12,.lit (.int .i64 z3)),(13,.box [.lit (.int .i64 a7.ID),.sl (a7.Values.map Aa3)]),(43,.alias 7 []),(44,.lit (.int .i64 ((z0.length:Int)))),(45,.lit (.int .i64 z4))] (Lv env 25 Tryz.f25 2 res φ)
def L4 (x1:api_CFD) (z0:List api_Row) (z1 z2:List (List Int)) (a7:api_Row) (z3:Int) (y69_o_L4 y69_n_L4:Nat) (z4 z5:Int) (φ:List (List Int)×Int->Prop):Prop:=Pt env 25 W B [1,1,1,1,1,1,0,1,0,0,1,1,0,0,1,1,1,0] [(1,.agg [.sl (x1.Lhs.map (eI .i64)),.lit (.int .i64 x1.Rhs),.sl (x1.Pattern.map Aa5)]),(3,.box [.sl (x1.Lhs.map (eI .i64)),.lit (.int .i64 x1.Rhs),.sl (x1.Pattern.map Aa5)]),(7,.own (z0.map Aa1)),(10,.own (z1.map (eOw (eI .i64)))),(11,.own (z2.map (eOw (eI .i64)))),(13,.box [.lit (.int .i64 a7.ID),.sl (a7.Values.map Aa3)]),(43,.alias 7 []),(44,.lit (.int .i64 ((z0.length:Int)))),(45,.lit (.int .i64 z3)),(69,.sub 7 [] y69_o_L4 y69_n_L4),(70,.lit (.int .i64 z4)),(71,.lit (.int .i64 z5))] (Lv env 25 Tryz.f25 2 res φ)
def L6 (x1:api_CFD) (z0:List api_Row) (z1 z2:List (List Int)) (a7:api_Row) (z3:Int) (y69_o_L6 y69_n_L6:Nat) (z4 z5:Int) (φ:List (List Int)×Int->Prop):Prop:=Pt env 25 W B [1,1,1,1,1,1,0,1,0,0,1,1,0,0,1,1,1,0,0,1,1,1] [(1,.agg [.sl (x1.Lhs.map (eI .i64)),.lit (.int .i64 x1.Rhs),.sl (x1.Pattern.map Aa5)]),(3,.box [.sl (x1.Lhs.map (eI .i64)),.lit (.int .i64 x1.Rhs),.sl (x1.Pattern.map Aa5)]),(7,.own (z0.map Aa1)),(10,.own (z1.map (eOw (eI .i64)))),(11,.own (z2.map (eOw (eI .i64)))),(13,.box [.lit (.int .i64 a7.ID),.sl (a7.Values.map Aa3)]),(43,.alias 7 []),(44,.lit (.int .i64 ((z0.length:Int)))),(45,.lit (.int .i64 z3)),(69,.sub 7 [] y69_o_L6 y69_n_L6),(70,.lit (.int .i64 z4)),(71,.lit (.int .i64 z5))] (Lv env 25 Tryz.f25 2 res φ)
theorem L1_step (x0:api_Table) (x1:api_CFD) (z0:List api_Row) (z1:Int) (φ:List (List Int)×Int->Prop) (h :
 (if z1<(x0.Rows.length:Int) then
 ∃ a3,lget x0.Rows z1=some a3 /\
 ∃ r5:Bool,q63_.C x1 a3.Values r5 /\
 (if r5=true then
 (z0.length+1)*32<=140737488355328 /\
 q39_.L2 x0 x1 ((z0++[a3])) z1 φ
 else
 q39_.L2 x0 x1 z0 z1 φ)
 else
 q39_.L3 x1 z0 ([]) ([]) 0 φ)):L1 x0 x1 z0 z1 φ:=
 mIn <|
 mAsk 2 h dT dF (fun h=>
 mIx 4 Aa1 h fun a3 h4 h=>
 Abv 8 h (fun _ h=>h) (fun _ h=>
 mApp 6 Aa1 z0 ([a3]) h fun h=>
 mFin 2 h) fun _ h=>
 mFin 3 h) fun h=>
 mLen 9 Aa1 z0 <|
 mFin 2 h
theorem L2_step (x0:api_Table) (x1:api_CFD) (z0:List api_Row) (z1:Int) (φ:List (List Int)×Int->Prop) (h :
 q39_.L1 x0 x1 z0 ((IntKind.wrap .i64 (z1+1))) φ):L2 x0 x1 z0 z1 φ:=
 mIn <|
 mFin 4 h
theorem L3_step (x1:api_CFD) (z0:List api_Row) (z1 z2:List (List Int)) (z3:Int) (φ:List (List Int)×Int->Prop) (h :
 (if z3<(z0.length:Int) then
 ∃ a7,lget z0 z3=some a7 /\
 ∃ r9:api_Cell,q54_.C x1 r9 /\
 ∃ a10,lget a7.Values x1.Rhs=some a10 /\
 ∃ r12:Bool,q62_.C r9 a10 r12 /\
 (if r12=true then
 q39_.L5 x1 z0 z1 z2 z3 a7 z3 φ
 else
 (z1.length+1)*24<=140737488355328 /\
 q39_.L5 x1 z0 ((z1++[[a7.ID]])) z2 z3 a7 z3 φ)
 else
 (z1.length+z2.length)*24<=140737488355328 /\
 φ (((z1++z2),0)))):L3 x1 z0 z1 z2 z3 φ:=
 mIn <|
 mAsk 2 h dT dF (fun h=>
 mIy 5 Aa1 h fun a7 h8 h=>
 mLd 0 Aa1 h8 <|
 mLo 6 h (fun _ h=>h) (hf:=(fun _=>Ajg (Adx (Aa2 rfl (Aa2 rfl (Aa2 rfl (Aa2 rfl Ab7))))))) fun r9 _ h=>
 mIx 4 Aa3 h fun a10 h11 h=>
 Abv 1 h (fun _ h=>h) (fun _ h=>
 mFin 4 h) fun _ h=>
 mApp 9 (eOw (eI .i64)) z1 ([[a7.ID]]) h fun h=>
 mFin 2 h) fun h=>
 mXit 2 [(10,.own (z1.map (eSl (eI .i64)))),(11,.own (z2.map (eSl (eI .i64))))] (Ayi (F0:=[(10,.own (z1.map (eOw (eI .i64)))),(11,.own (z2.map (eOw (eI .i64))))]) (F1:=[(10,.own (z1.map (eSl (eI .i64)))),(11,.own (z2.map (eOw (eI .i64))))]) (l1:=z1) (l2:=z2) (e1:=(eI .i64)) (e1':=(eI .i64)) (e2:=(eI .i64)) (e2':=(eI .i64)) (s1:=10) (s2:=11) (by kernel_rfl) (by kernel_rfl) (by kernel_rfl) (fun _=>rfl) (by kernel_rfl) (by kernel_rfl) (by kernel_rfl) (fun _=>rfl) (by kernel_rfl) (by kernel_rfl)) <|
 h.elim fun h14 h=>
 mOp 3 (app3 (x:=(.tmp 91)) (y:=(.tmp 92)) (t:=54) (u:=54) (et:=96) (z:=.own []) (k:=1) (c:=24) (e:=(eSl (eI .i64))) (l:=z1) (m:=z2) (by kernel_rfl) (by kernel_rfl) (by kernel_rfl) (by kernel_rfl) (by kernel_rfl) (by kernel_rfl) (Ay6 (s:=11) (ps:=[]) (by kernel_rfl) (by kernel_rfl) (fun _=>rfl)) (by kernel_rfl) (by kernel_rfl) (by kernel_rfl) (by kernel_rfl) (fun _=>rfl) h14) <|
 mRet 3 h
theorem L5_step (x1:api_CFD) (z0:List api_Row) (z1 z2:List (List Int)) (z3:Int) (a7:api_Row) (z4:Int) (φ:List (List Int)×Int->Prop) (h :
 0<=(IntKind.wrap .i64 (z3+1)) /\
 (((IntKind.wrap .i64 (z3+1))).toNat<=z0.length/\z0.length<=z0.length) /\
 ((IntKind.wrap .i64 (z3+1))).toNat+(z0.length-((IntKind.wrap .i64 (z3+1))).toNat)<=z0.length /\
 q39_.L4 x1 z0 z1 z2 a7 z4 (((IntKind.wrap .i64 (z3+1))).toNat) ((z0.length-((IntKind.wrap .i64 (z3+1))).toNat)) (((List.take (z0.length-((IntKind.wrap .i64 (z3+1))).toNat) (List.drop ((IntKind.wrap .i64 (z3+1))).toNat z0)).length:Int)) 0 φ):L5 x1 z0 z1 z2 z3 a7 z4 φ:=
 mIn <|
 h.elim fun h15 h=>
 h.elim fun h16 h=>
 mVl 4 (Ak2 (s:=7) (ps:=[]) (t:=28) (x:=(.tmp 66)) (lo:=(some (.tmp 68))) (hi:=none) (lo':=some ((IntKind.wrap .i64 (z3+1))).toNat) (hi':=none) (e:=Aa1) (l:=z0) (et:=100) (k:=2) (by kernel_rfl) (by kernel_rfl) (Afm (by kernel_rfl)) (Ag4 (i:=(IntKind.wrap .i64 (z3+1))) (q:=.i64) (by kernel_rfl) h15) Ag3 (by kernel_rfl) (by kernel_rfl) (fun _=>rfl) (by kernel_rfl) h16.1 h16.2) <|
 h.elim fun h17 h=>
 mVl 0 (Aze (x:=(.tmp 69)) (t:=28) (et:=100) (d:=.sub 7 [] (((IntKind.wrap .i64 (z3+1))).toNat) ((z0.length-((IntKind.wrap .i64 (z3+1))).toNat))) (e:=Aa1) (l:=(List.take (z0.length-((IntKind.wrap .i64 (z3+1))).toNat) (List.drop ((IntKind.wrap .i64 (z3+1))).toNat z0))) (by kernel_rfl) (by kernel_rfl) (An3 (s:=7) (ps:=[]) (l:=z0) (e:=Aa1) (by kernel_rfl) h17) (by kernel_rfl)) <|
 mFin 2 h
theorem L4_step (x1:api_CFD) (z0:List api_Row) (z1 z2:List (List Int)) (a7:api_Row) (z3:Int) (y69_o_L4 y69_n_L4:Nat) (z4 z5:Int) (φ:List (List Int)×Int->Prop) (h :
 (if z5<z4 then
 ∃ a20,lget z0 (((y69_o_L4:Int)+z5))=some a20 /\
 (0<=z5/\z5<((y69_n_L4:Nat):Int)) /\
 y69_o_L4+y69_n_L4<=z0.length /\
 ∃ r22:Bool,q64_.C x1 a7.Values a20.Values r22 /\
 (if r22=true then
 (z2.length+1)*24<=140737488355328 /\
 q39_.L6 x1 z0 z1 ((z2++[[a7.ID,a20.ID]])) a7 z3 y69_o_L4 y69_n_L4 z4 z5 φ
 else
 q39_.L6 x1 z0 z1 z2 a7 z3 y69_o_L4 y69_n_L4 z4 z5 φ)
 else
 q39_.L3 x1 z0 z1 z2 ((IntKind.wrap .i64 (z3+1))) φ)):L4 x1 z0 z1 z2 a7 z3 y69_o_L4 y69_n_L4 z4 z5 φ:=
 mIn <|
 mAsk 2 h dT dF (fun h=>
 h.elim fun a20 h=>h.elim fun h21 h=>
 h.elim fun h19 h=>
 h.elim fun h18 h=>
 mVl 4 (Avb (s:=7) (ps:=[]) (off:=y69_o_L4) (len:=y69_n_L4) (t:=28) (x:=(.tmp 69)) (ix:=(.tmp 71)) (et:=100) (k:=2) (e:=Aa1) (l:=z0) (i:=z5) (q:=.i64) (a:=a20) (by kernel_rfl) (by kernel_rfl) (by kernel_rfl) (by kernel_rfl) (by kernel_rfl) (by kernel_rfl) h18 h19 h21 (by kernel_rfl)) <|
 mLd 0 Aa1 h21 <|
 Abv 9 h (fun _ h=>h) (fun _ h=>
 mApp 10 (eOw (eI .i64)) z2 ([[a7.ID,a20.ID]]) h fun h=>
 mFin 2 h) fun _ h=>
 mFin 3 h) fun h=>
 mFin 7 h
theorem L6_step (x1:api_CFD) (z0:List api_Row) (z1 z2:List (List Int)) (a7:api_Row) (z3:Int) (y69_o_L6 y69_n_L6:Nat) (z4 z5:Int) (φ:List (List Int)×Int->Prop) (h :
 q39_.L4 x1 z0 z1 z2 a7 z3 y69_o_L6 y69_n_L6 z4 ((IntKind.wrap .i64 (z5+1))) φ):L6 x1 z0 z1 z2 a7 z3 y69_o_L6 y69_n_L6 z4 z5 φ:=
 mIn <|
 mFin 4 h
theorem enter (x0:api_Table) (x1:api_CFD) (φ:List (List Int)×Int->Prop) (h :
 ∃ r1:Int,q94_.C x0 r1 /\
 (if r1=0 then
 ∃ r2:Bool,q53_.C ((x0.Attrs.length:Int)) x1 r2 /\
 (if r2=true then
 q39_.L1 x0 x1 ([]) 0 φ
 else
 φ (([],1)))
 else
 φ (([],r1)))):∃ r,φ r/\C x0 x1 r:=
 mEnt (fd:=Tryz.f25) (body:=B) (V:=W) (res:=res) <|
 mCal 8 h (fun _ h=>h) fun r1 _ h=>
 Ael 4 h Ae1 Ae0 (fun h=>
 mRet 7 h) fun h=>
 mLen 6 eS x0.Attrs <|
 Abv 1 h (fun _ h=>h) (fun _ h=>
 mLen 10 Aa1 x0.Rows <|
 mFin 2 h) fun _ h=>
 mRet 7 h
end q39_
namespace q55_
noncomputable def B:Code:=(Tryz.f9.body).getD .skip
def W:List Nat:=[0,1,2,3,4,5,6,7]
def res (r:Bool×Int):D×List D:=(.tup [.lit (.bool r.1),.lit (.int .i64 r.2)],[])
def C (x0:api_Table) (x1:api_CFD) (r:Bool×Int):Prop:=Ret env 9 [.agg [.lit (.string x0.Name),.sl (x0.Attrs.map eS),.sl (x0.Rows.map Aa1)],.agg [.sl (x1.Lhs.map (eI .i64)),.lit (.int .i64 x1.Rhs),.sl (x1.Pattern.map Aa5)]] (res r).1 (res r).2
theorem enter (x0:api_Table) (x1:api_CFD) (φ:Bool×Int->Prop) (h :
 ∃ r1:List (List Int)×Int,q39_.C x0 x1 r1 /\
 (if r1.2=0 then
 φ ((((r1.1.length:Int) == 0),r1.2))
 else
 φ ((false,r1.2)))):∃ r,φ r/\C x0 x1 r:=
 mEnt (fd:=Tryz.f9) (body:=B) (V:=W) (res:=res) <|
 mCal 9 h (fun _ h=>h) (hf:=(fun _=>Ab6)) fun r1 _ h=>
 mAsk 8 h Aaw Aav (fun h=>
 mLen 2 (eSl (eI .i64)) r1.1 <|
 mRet 6 h) fun h=>
 mRet 9 h
end q55_
namespace q48_
noncomputable def B:Code:=(Tryz.f8.body).getD .skip
def W:List Nat:=[0,1,2,3,4,6,7,16,17,18,19,28,29,30]
def res (r:List api_CFD):D×List D:=(.own (r.map Aeu),[])
def C (x0:api_FD) (r:List api_CFD):Prop:=Ret env 8 [.agg [.lit (.int .u32 x0.Lhs),.lit (.int .u32 x0.Rhs)]] (res r).1 (res r).2
def L1 (r1:List Int) (z0:List api_CFD) (r2:List Int) (z1:Int) (φ:List api_CFD->Prop):Prop:=Pt env 8 W B [1,1,1,0,1,0] [(3,.own (r1.map (eI .i64))),(4,.own (z0.map Aeu)),(16,.own (r2.map (eI .i64))),(17,.lit (.int .i64 ((r2.length:Int)))),(18,.lit (.int .i64 z1))] (Lv env 8 Tryz.f8 1 res φ)
def L2 (r1:List Int) (z0:List api_CFD) (a3:Int) (z1:List api_Cell) (r2:List Int) (z2 z3:Int) (φ:List api_CFD->Prop):Prop:=Pt env 8 W B [1,1,1,0,1,0,0,1,1,0,0,1,1,0,1,0] [(3,.own (r1.map (eI .i64))),(4,.own (z0.map Aeu)),(7,.box [.own (r1.map (eI .i64)),.lit (.int .i64 a3),.own (z1.map Aa5)]),(16,.own (r2.map (eI .i64))),(17,.lit (.int .i64 ((r2.length:Int)))),(18,.lit (.int .i64 z2)),(28,.lit (.int .i64 ((IntKind.wrap .i64 ((r1.length:Int)+1))))),(29,.lit (.int .i64 z3))] (Lv env 8 Tryz.f8 1 res φ)
theorem L1_step (r1:List Int) (z0:List api_CFD) (r2:List Int) (z1:Int) (φ:List api_CFD->Prop) (h :
 (if z1<(r2.length:Int) then
 ∃ a3,lget r2 z1=some a3 /\
 r1.length*8<=140737488355328 /\
 q48_.L2 r1 z0 a3 ([]) r2 z1 0 φ
 else
 φ z0)):L1 r1 z0 r2 z1 φ:=
 mIn <|
 mAsk 2 h dT dF (fun h=>
 mIy 4 (eI .i64) h fun a3 h4 h=>
 mLd 0 (eI .i64) h4 <|
 h.elim fun h5 h=>
 As2 4 (show Ret env 24 [.sl (r1.map (eI .i64))] (.own (r1.map (eI .i64))) [] from Auu (k:=1) (b:=8) (e:=(eI .i64)) (l:=r1) (by kernel_rfl) (fun _=>rfl) h5) (hr:=by exact (Agr (Aj3 (s:=3) (ps:=[]) (l:=r1) (e:=(eI .i64)) (e':=(eI .i64)) (fun _=>rfl) (by kernel_rfl)) Ajm)) (hf:=(Ab4 (Abh (e:=(eI .i64)) (fun _=>rfl)) rfl)) <|
 mLen 7 (eI .i64) r1 <|
 mFin 3 h) fun h=>
 mRet 7 h
theorem L2_step (r1:List Int) (z0:List api_CFD) (a3:Int) (z1:List api_Cell) (r2:List Int) (z2 z3:Int) (φ:List api_CFD->Prop) (h :
 (if z3<(IntKind.wrap .i64 ((r1.length:Int)+1)) then
 (z1.length+1)*40<=140737488355328 /\
 q48_.L2 r1 z0 a3 ((z1++[(⟨true,(⟨0,0,(⟨#[]⟩:ByteArray)⟩:api_Value)⟩:api_Cell)])) r2 z2 ((IntKind.wrap .i64 (z3+1))) φ
 else
 (z0.length+1)*56<=140737488355328 /\
 q48_.L1 r1 ((z0++[(⟨r1,a3,z1⟩:api_CFD)])) r2 ((IntKind.wrap .i64 (z2+1))) φ)):L2 r1 z0 a3 z1 r2 z2 z3 φ:=
 mIn <|
 mAsk 2 h dT dF (fun h=>
 mApp 8 Aa5 z1 ([(⟨true,(⟨0,0,(⟨#[]⟩:ByteArray)⟩:api_Value)⟩:api_Cell)]) h fun h=>
 mFin 7 h) fun h=>
 mApp 7 Aeu z0 ([(⟨r1,a3,z1⟩:api_CFD)]) h fun h=>
 mFin 6 h
theorem enter (x0:api_FD) (φ:List api_CFD->Prop) (h :
 ∃ r1:List Int,q69_.C x0.Lhs r1 /\
 ∃ r2:List Int,q69_.C ((Aoy .u32 x0.Rhs x0.Lhs)) r2 /\
 q48_.L1 r1 ([]) r2 0 φ):∃ r,φ r/\C x0 r:=
 mEnt (fd:=Tryz.f8) (body:=B) (V:=W) (res:=res) <|
 mCal 7 h (fun _ h=>h) (hf:=(fun _=>Ab4 (Abh (e:=(eI .i64)) (fun _=>rfl)) rfl)) fun r1 _ h=>
 mCal 11 h (fun _ h=>h) (hf:=(fun _=>Ab4 (Abh (e:=(eI .i64)) (fun _=>rfl)) rfl)) fun r2 _ h=>
 mLen 0 (eI .i64) r2 <|
 mFin 2 h
end q48_
namespace q36_
noncomputable def B:Code:=(Tryz.f86.body).getD .skip
def W:List Nat:=[0,2]
def res (r:Bool):D×List D:=(.lit (.bool r),[])
def C (x0:List Int) (r:Bool):Prop:=Ret env 86 [.sl (x0.map (eI .i64))] (res r).1 (res r).2
theorem enter (x0:List Int) (φ:Bool->Prop) (h :
 φ ((decide ((x0.length:Int)<2)))):∃ r,φ r/\C x0 r:=
 mEnt (fd:=Tryz.f86) (body:=B) (V:=W) (res:=res) <|
 mLen 5 (eI .i64) x0 <|
 mRet 3 h
end q36_
namespace q20_
noncomputable def B:Code:=(Tryz.f81.body).getD .skip
def W:List Nat:=[0,1,4,5,7,8,9,16]
def res (r:Int):D×List D:=(.lit (.int .i64 r),[])
def C (x0:List (List Int)) (r:Int):Prop:=Ret env 81 [.sl (x0.map (eSl (eI .i64))),.fn 86 []] (res r).1 (res r).2
def L1 (x0:List (List Int)) (z0:Int) (φ:Int->Prop):Prop:=Pt env 81 W B [1,0,1,0] [(0,.sl (x0.map (eSl (eI .i64)))),(1,.fn 86 []),(7,.lit (.int .i64 ((x0.length:Int)))),(8,.lit (.int .i64 z0))] (Lv env 81 Tryz.f81 2 res φ)
theorem L1_step (x0:List (List Int)) (z0:Int) (φ:Int->Prop) (h :
 (if z0<(x0.length:Int) then
 ∃ a1,lget x0 z0=some a1 /\
 ∃ r3:Bool,q36_.C a1 r3 /\
 (if r3=true then
 φ z0
 else
 q20_.L1 x0 ((IntKind.wrap .i64 (z0+1))) φ)
 else
 φ ((-1)))):L1 x0 z0 φ:=
 mIn <|
 mAsk 2 h dT dF (fun h=>
 mIx 11 (eSl (eI .i64)) h fun a1 h2 h=>
 Abv 1 h (fun _ h=>h) (fun _ h=>
 mRet 6 h) fun _ h=>
 mFin 7 h) fun h=>
 mRet 6 h
theorem enter (x0:List (List Int)) (φ:Int->Prop) (h :
 q20_.L1 x0 0 φ):∃ r,φ r/\C x0 r:=
 mEnt (fd:=Tryz.f81) (body:=B) (V:=W) (res:=res) <|
 mLen 5 (eSl (eI .i64)) x0 <|
 mFin 2 h
end q20_
namespace q18_
noncomputable def B:Code:=(Tryz.f85.body).getD .skip
def W:List Nat:=[0,1,4,5,6,7,12,19,29]
def res (r:(List (List Int)×Bool)):D×List D:=((sown (r.1.map (eSl (eI .i64))) r.2),[])
def C (k0_0:List (List Int)) (r:(List (List Int)×Bool)):Prop:=Ret env 85 [.own (k0_0.map (eSl (eI .i64))),.fn 86 []] (res r).1 (res r).2
def L1 (k0_0:List (List Int)) (r1 z0:Int) (φ:(List (List Int)×Bool)->Prop):Prop:=Pt env 85 W B [1,1,1,0,1,0] [(0,.own (k0_0.map (eSl (eI .i64)))),(1,.fn 86 []),(5,.lit (.int .i64 r1)),(6,.lit (.int .i64 z0))] (Lv env 85 Tryz.f85 2 res φ)
def L2 (k0_0:List (List Int)) (r1 z0:Int) (φ:(List (List Int)×Bool)->Prop):Prop:=Pt env 85 W B [1,1,1,0,1,0,0,1,1] [(0,.own (k0_0.map (eSl (eI .i64)))),(1,.fn 86 []),(5,.lit (.int .i64 r1)),(6,.lit (.int .i64 z0))] (Lv env 85 Tryz.f85 2 res φ)
theorem L1_step (k0_0:List (List Int)) (r1 z0:Int) (φ:(List (List Int)×Bool)->Prop) (h :
 (if z0<(k0_0.length:Int) then
 ∃ a2,lget k0_0 z0=some a2 /\
 ∃ r4:Bool,q36_.C a2 r4 /\
 (if r4=true then
 q18_.L2 k0_0 r1 z0 φ
 else
 ∃ a5,lget k0_0 r1=some a5 /\
 q18_.L2 ((lset k0_0 r1 a2)) ((IntKind.wrap .i64 (r1+1))) z0 φ)
 else
 0<=r1 /\
 (r1.toNat<=k0_0.length/\k0_0.length<=k0_0.length) /\
 r1.toNat+(k0_0.length-r1.toNat)<=k0_0.length /\
 0<=r1 /\
 r1.toNat+(k0_0.length-r1.toNat)<=k0_0.length /\
 r1.toNat<=k0_0.length /\
 (r1.toNat+(k0_0.length-r1.toNat)<=k0_0.length/\r1.toNat<=k0_0.length/\r1.toNat<=r1.toNat) /\
 φ (⟨(List.take r1.toNat k0_0),(!(((List.take r1.toNat k0_0)).isEmpty))⟩))):L1 k0_0 r1 z0 φ:=
 mIn <|
 mLen 4 (eSl (eI .i64)) k0_0 <|
 mAsk 0 h dT dF (fun h=>
 mIy 6 (eSl (eI .i64)) h fun a2 h3 h=>
 mLd 0 (eSl (eI .i64)) h3 <|
 Abv 5 h (fun _ h=>h) (fun _ h=>
 mFin 4 h) fun _ h=>
 mIy 7 (eSl (eI .i64)) h fun a5 h6 h=>
 mSto 0 (eSl (eI .i64)) a2 h6 <|
 mFin 6 h) fun h=>
 h.elim fun h7 h=>
 h.elim fun h8 h=>
 mVl 6 (Ak2 (s:=0) (ps:=[]) (t:=74) (x:=(.tmp 36)) (lo:=(some (.tmp 37))) (hi:=none) (lo':=some (r1).toNat) (hi':=none) (e:=(eSl (eI .i64))) (l:=k0_0) (et:=46) (k:=1) (by kernel_rfl) (by kernel_rfl) (Afm (by kernel_rfl)) (Ag4 (i:=r1) (q:=.i64) (by kernel_rfl) h7) Ag3 (by kernel_rfl) (by kernel_rfl) (fun _=>rfl) (by kernel_rfl) h8.1 h8.2) <|
 h.elim fun h9 h=>
 mOp 0 (Ber (t:=74) (x:=(.tmp 38)) (s:=0) (ps:=[]) (off:=r1.toNat) (len:=(k0_0.length-r1.toNat)) (l:=k0_0) (e:=(eSl (eI .i64))) (et:=46) (z:=.own []) (k:=1) (by kernel_rfl) (by kernel_rfl) (by kernel_rfl) (by kernel_rfl) (by kernel_rfl) (by kernel_rfl) (by kernel_rfl) (by kernel_rfl) (fun _=>rfl) h9 (by kernel_rfl)) <|
 h.elim fun h10 h=>
 h.elim fun h11 h=>
 h.elim fun h12 h=>
 mVl 4 (Avc (t:=74) (x:=(.tmp 39)) (hi:=(some (.tmp 40))) (hi':=r1.toNat) (e:=(eSl (eI .i64))) (l:=k0_0) (off:=r1.toNat) (len:=(k0_0.length-r1.toNat)) (z:=.own []) (et:=46) (k:=1) (s:=0) (ps:=[]) (by kernel_rfl) (by kernel_rfl) (by kernel_rfl) (Ag4 (i:=r1) (q:=.i64) (by kernel_rfl) h10) (by kernel_rfl) (by kernel_rfl) (fun _=>rfl) (by kernel_rfl) (by kernel_rfl) h11 h12) <|
 h.elim fun h13 h=>
 mRet 2 h (hl:=(Bci (t:=4) (s:=0) (n:=r1.toNat) (m:=(List.take r1.toNat k0_0)) (e:=(eSl (eI .i64))) (es:=clr (eSl (eI .i64)) k0_0 r1.toNat (k0_0.length-r1.toNat) (.own [])) (by kernel_rfl) (by kernel_rfl) (by kernel_rfl) (by rw [Ayq (by first | exact h13.1 | omega)];exact h13.2.1) (Bdx h13.1 h13.2.2) (by kernel_rfl)))
theorem L2_step (k0_0:List (List Int)) (r1 z0:Int) (φ:(List (List Int)×Bool)->Prop) (h :
 q18_.L1 k0_0 r1 ((IntKind.wrap .i64 (z0+1))) φ):L2 k0_0 r1 z0 φ:=
 mIn <|
 mFin 5 h
theorem enter (k0_0:List (List Int)) (φ:(List (List Int)×Bool)->Prop) (h :
 ∃ r1:Int,q20_.C k0_0 r1 /\
 (if r1=(-1) then
 φ (⟨k0_0,true⟩)
 else
 q18_.L1 k0_0 r1 ((IntKind.wrap .i64 (r1+1))) φ)):∃ r,φ r/\C k0_0 r:=
 mEnt (fd:=Tryz.f85) (body:=B) (V:=W) (res:=res) <|
 mCal 6 h (fun _ h=>h) (hr:=by exact (Agr (Aj3 (s:=0) (ps:=[]) (l:=k0_0) (e:=(eSl (eI .i64))) (e':=(eSl (eI .i64))) (fun _=>rfl) (by kernel_rfl)) (pr_k Ajm))) fun r1 _ h=>
 mAsk 4 h Aaw Aav (fun h=>
 mRet 6 h) fun h=>
 mFin 8 h
end q18_
namespace q38_
noncomputable def B:Code:=(Tryz.f56.body).getD .skip
def W:List Nat:=[0,2,3,4,5,6,7,8,10,11,12,13,24]
def res (r:List (List Int)):D×List D:=(.sl (r.map (eSl (eI .i64))),[])
def C (x0:List ByteArray) (r:List (List Int)):Prop:=Ret env 56 [.sl (x0.map eS)] (res r).1 (res r).2
def L1 (x0:List ByteArray) (z0:List (ByteArray×Int)) (z1:List (List Int)) (z2:Int) (φ:List (List Int)->Prop):Prop:=Pt env 56 W B [1,1,1,0,1,0] [(0,.sl (x0.map eS)),(3,(eMap Value.string (fun (x:Int)=>D.lit (.int .i64 x)) z0)),(4,.own (z1.map (eOw (eI .i64)))),(10,.sl (x0.map eS)),(11,.lit (.int .i64 ((x0.length:Int)))),(12,.lit (.int .i64 z2))] (Lv env 56 Tryz.f56 1 res φ)
def L2 (x0:List ByteArray) (z0:List (ByteArray×Int)) (z1:List (List Int)) (z2 z3:Int) (φ:List (List Int)->Prop):Prop:=Pt env 56 W B [1,1,1,0,1,0,0,1,1,0,0,1,1,1] [(0,.sl (x0.map eS)),(3,(eMap Value.string (fun (x:Int)=>D.lit (.int .i64 x)) z0)),(4,.own (z1.map (eOw (eI .i64)))),(5,.lit (.int .i64 z2)),(7,.lit (.int .i64 z3)),(10,.sl (x0.map eS)),(11,.lit (.int .i64 ((x0.length:Int)))),(12,.lit (.int .i64 z2))] (Lv env 56 Tryz.f56 1 res φ)
theorem L1_step (x0:List ByteArray) (z0:List (ByteArray×Int)) (z1:List (List Int)) (z2:Int) (φ:List (List Int)->Prop) (h :
 (if z2<(x0.length:Int) then
 ∃ a1,lget x0 z2=some a1 /\
 (if (mhas a1 z0)=true then
 q38_.L2 x0 z0 z1 z2 ((Ah6 a1 z0 0)) φ
 else
 (z1.length+1)*24<=140737488355328 /\
 q38_.L2 x0 ((mset a1 (z1.length:Int) z0)) ((z1++[[]])) z2 ((z1.length:Int)) φ)
 else
 ∃ r4:(List (List Int)×Bool),q18_.C z1 r4 /\
 φ r4.1)):L1 x0 z0 z1 z2 φ:=
 mIn <|
 mAsk 2 h dT dF (fun h=>
 mIx 5 eS h fun a1 h2 h=>
 mVl 7 (Axg Bca (fun _=>by kernel_rfl) (ek:=Value.string) (ev:=(fun (x:Int)=>D.lit (.int .i64 x))) (t:=171) (x:=(.tmp 18)) (kx:=(.tmp 19)) (s:=3) (ps:=[]) (l:=z0) (kd:=.lit (.string a1)) (kv:=a1) (kt:=9) (vt:=3) (v0:=0) (by kernel_rfl) (by kernel_rfl) (by kernel_rfl) (by kernel_rfl) (by kernel_rfl) (by kernel_rfl) (by kernel_rfl) (by kernel_rfl)) <|
 mAsk 7 h id fls (fun h=>
 mFin 4 h) fun h=>
 mLen 5 (eOw (eI .i64)) z1 <|
 mOp 6 (Aoc Bca (fun _=>by kernel_rfl) (ek:=Value.string) (ev:=(fun (x:Int)=>D.lit (.int .i64 x))) (t:=171) (mx:=(.tmp 27)) (kx:=(.tmp 28)) (vx:=(.tmp 29)) (s:=3) (ps:=[]) (l:=z0) (kd:=.lit (.string a1)) (kv:=a1) (kt:=9) (vt:=3) (v:=(z1.length:Int)) (d:=.lit (.int .i64 ((z1.length:Int)))) (by kernel_rfl) (by kernel_rfl) (by kernel_rfl) (by kernel_rfl) (by kernel_rfl) (by kernel_rfl) (by kernel_rfl) (by kernel_rfl) (by kernel_rfl) (Apf (by kernel_rfl))) <|
 mApp 4 (eOw (eI .i64)) z1 ([[]]) h fun h=>
 mFin 2 h) fun h=>
 mXit 2 [(4,.own (z1.map (eSl (eI .i64))))] (Bb3 (F0:=[(4,.own (z1.map (eOw (eI .i64))))]) (l:=z1) (e:=(eI .i64)) (e':=(eI .i64)) (s:=4) (by kernel_rfl) (by kernel_rfl) (by kernel_rfl) (fun _=>rfl) (by kernel_rfl) (by kernel_rfl)) <|
 Ap8 2 h (fun _ h=>h) (fun (r4:(List (List Int)×Bool))=>Bbu (l:=r4.1) (e:=(eSl (eI .i64))) rfl (fun _=>rfl)) (hf:=(fun _=>Ab6)) fun r4 _ h=>
 mRet 2 h
theorem L2_step (x0:List ByteArray) (z0:List (ByteArray×Int)) (z1:List (List Int)) (z2 z3:Int) (φ:List (List Int)->Prop) (h :
 ∃ a5,lget z1 z3=some a5 /\
 (a5.length+1)*8<=140737488355328 /\
 q38_.L1 x0 z0 ((lset z1 z3 (a5++[z2]))) ((IntKind.wrap .i64 (z2+1))) φ):L2 x0 z0 z1 z2 z3 φ:=
 mIn <|
 mIy 5 (eOw (eI .i64)) h fun a5 h6 h=>
 mLd 0 (eOw (eI .i64)) h6 <|
 h.elim fun h7 h=>
 mOp 2 (app2 (x:=(.tmp 38)) (y:=(.tmp 40)) (t:=46) (u:=46) (et:=3) (z:=.lit (.int .i64 0)) (k:=1) (c:=8) (e:=(eI .i64)) (l:=a5) (m:=[z2]) (by kernel_rfl) (by kernel_rfl) (by kernel_rfl) (by kernel_rfl) (by kernel_rfl) (Bhm (s:=4) (ps:=[]) (n:=(z3.toNat)) (c:=0) (e:=(eOw (eI .i64))) (l:=z1) (a:=a5) (by kernel_rfl) (by kernel_rfl) (Aba h6).2 (by kernel_rfl) (by kernel_rfl) (Apf (by kernel_rfl))) (by kernel_rfl) (by kernel_rfl) (by kernel_rfl) (by kernel_rfl) (by kernel_rfl) (fun _=>rfl) h7) <|
 mVl 0 (Axd (s:=4) (ps:=[]) (cs:=[.undef]) (t:=74) (x:=(.tmp 33)) (ix:=(.tmp 34)) (et:=46) (k:=1) (e:=(eOw (eI .i64))) (l:=z1) (i:=z3) (q:=.i64) (a:=a5) (by kernel_rfl) (by kernel_rfl) (by kernel_rfl) (by kernel_rfl) (by kernel_rfl) (by kernel_rfl) h6 (by kernel_rfl)) <|
 mOp 0 (Bkj (t:=46) (x:=(.tmp 42)) (y:=(.tmp 41)) (s:=4) (ps:=[]) (n:=(z3.toNat)) (e:=(eOw (eI .i64))) (l:=z1) (a:=a5) (b:=(a5++[z2])) (k:=1) (cs:=[.undef]) (d:=.own (((a5++[z2])).map (eI .i64))) (by kernel_rfl) (by kernel_rfl) (by kernel_rfl) (by kernel_rfl) (Aba h6).2 (by kernel_rfl) (by kernel_rfl) (by kernel_rfl) (by kernel_rfl) (by kernel_rfl) (Apf (by kernel_rfl))) <|
 mFin 5 h
theorem enter (x0:List ByteArray) (φ:List (List Int)->Prop) (h :
 q38_.L1 x0 ([]) ([]) 0 φ):∃ r,φ r/\C x0 r:=
 mEnt (fd:=Tryz.f56) (body:=B) (V:=W) (res:=res) <|
 mLen 12 eS x0 <|
 mFin 2 h
end q38_
end Go.Own
namespace Go.Own
theorem q36_.spec {c:List Int}:q36_.C c (decide ((c.length:Int)<2)):=by
 obtain ⟨r,h1,h2⟩:=q36_.enter c (fun r=>r=decide ((c.length:Int)<2)) rfl;rw [← h1];exact h2
namespace q20_
theorem loop {x0:List (List Int)} {φ:Int->Prop} (hn:x0.length<Big):∀ (r:List (List Int)) (k:Nat),x0.drop k=r->φ (Af7 r k)->L1 x0 k φ
 | [],k,hd,h=>by
  apply L1_step;have:=Aar hd;rw [if_neg (by omega)];exact h
 | c::r,k,hd,h=>by
  apply L1_step;have hk:=Aas hd;rw [if_pos (by omega)];refine ⟨c,Aaz hd,_,q36_.spec,?_⟩;rw [Auf];simp only [Af7] at h
  split
  ·rename_i h1;have:Ae2 c=false:=by simpa using h1
   rw [this] at h;exact h
  ·rename_i h1;have:Ae2 c=true:=by simpa using h1
   rw [this] at h;rw [Aa4 (by unfold Big at hn;omega)];exact loop hn r (k+1) (Aa8 hd) h
theorem spec {x0:List (List Int)} (hn:x0.length<Big):C x0 (Af7 x0 0):=by
 obtain ⟨r,h1,h2⟩:=enter x0 (fun r=>r=Af7 x0 0) (loop hn x0 0 rfl rfl);rw [← h1];exact h2
end q20_
namespace q18_
theorem loop {x0:List (List Int)} {φ:List (List Int)×Bool->Prop} (hn:x0.length<Big) (hφ:∀ b,φ (x0.filter Ae2,b)):∀ (r:List (List Int)) (k j:Nat) (l:List (List Int)),x0.drop k=r->l.length=x0.length->l.drop k=x0.drop k->l.take j=(x0.take k).filter Ae2->j<=k->k<=x0.length->L1 l j k φ
 | [],k,j,l,hd,hl,h1,h2,h3,h4=>by
  apply L1_step;have hk:=Aar hd;rw [if_neg (by omega)];refine ⟨by omega,⟨by omega,by omega⟩,by omega,by omega,by omega,by omega,⟨by omega,by omega,by omega⟩,?_⟩;rw [Int.toNat_natCast,h2,List.take_of_length_le hk];exact hφ _
 | c::r,k,j,l,hd,hl,h1,h2,h3,h4=>by
  apply L1_step;have hk:=Aas hd;rw [if_pos (by omega)];have hlk:l.drop k=c::r:=by rw [h1,hd]
  refine ⟨c,Aaz hlk,_,q36_.spec,?_⟩;rw [Auf];have htk:x0.take (k+1)=x0.take k++[c]:=by rw [List.take_add_one,Aae hd];rfl
  split
  ·rename_i hc;have hc:Ae2 c=false:=by simpa using hc
   apply L2_step;rw [Aa4 (by unfold Big at hn;omega)];refine loop hn hφ r (k+1) j l (Aa8 hd) hl ?_ ?_ (by omega) (by omega)
   ·rw [Aa8 hlk,Aa8 hd]
   ·rw [htk,List.filter_append,h2];simp [hc]
  ·rename_i hc;have hc:Ae2 c=true:=by simpa using hc
   obtain ⟨a,ha⟩:=Afp (l:=l) (i:=(j:Int)) (by omega) (by omega);refine ⟨a,ha,?_⟩;apply L2_step;rw [Aa4 (by unfold Big at hn;omega),Aa4 (by unfold Big at hn;omega)];have hs:lset l (j:Int) c=l.set j c:=by simp [lset]
   rw [hs];refine loop hn hφ r (k+1) (j+1) (l.set j c) (Aa8 hd) (by simp [hl]) ?_ ?_ (by omega) (by omega)
   ·rw [List.drop_set_of_lt (by omega),Aa8 hlk,Aa8 hd]
   ·rw [htk,List.filter_append,← h2,List.take_add_one];have e1:(l.set j c)[j]? = some c:=by rw [List.getElem?_set_self (by omega)]
    rw [e1,List.take_set_of_le (by omega)];simp [hc]
theorem spec {x0:List (List Int)} (hn:x0.length<Big):∃ b,C x0 (x0.filter Ae2,b):=by
 obtain ⟨r,h1,h2⟩:=enter x0 (fun r=>r.1=x0.filter Ae2) (by
  refine ⟨_,q20_.spec hn,?_⟩;rcases An4 (l:=x0) (k:=0) with ⟨h1,h2⟩ | ⟨n,h1,h2,h3,c,h4,h5⟩
  ·rw [if_pos h1];exact (List.filter_eq_self.2 h2).symm
  ·rw [if_neg (by omega),h1,Nat.zero_add,Aa4 (by unfold Big at hn;omega)];refine loop (φ:=fun r=>r.1=x0.filter Ae2) hn (fun b=>rfl) _ (n+1) n x0 rfl rfl rfl ?_ (by omega) (by omega);have htk:x0.take (n+1)=x0.take n++[c]:=by rw [List.take_add_one,h4];rfl
   rw [htk,List.filter_append,List.filter_eq_self.2 h3]
   simp [h5])
 obtain ⟨l,b⟩:=r;simp only at h1;subst h1;exact ⟨b,h2⟩
end q18_
namespace q38_
theorem loop {x0:List ByteArray} {φ:List (List Int)->Prop} (hn:x0.length<=10000) (hφ:φ (grpF x0)):∀ (r:List ByteArray) (k:Nat) (m:List (ByteArray×Int)),x0.drop k=r->ixOf m (fsts (x0.take k))->L1 x0 m ((fsts (x0.take k)).map (cls (x0.take k))) k φ
 | [],k,m,hd,hm=>by
  apply L1_step;have hk:=Aar hd;rw [if_neg (by omega),List.take_of_length_le hk];have hlen:((fsts x0).map (cls x0)).length<Big:=by
   rw [List.length_map];have:∀ l:List ByteArray,(fsts l).length<=l.length:=by
    intro l;refine Aga (p:=fun l=>(fsts l).length<=l.length) (by simp [fsts]) (fun l b ih=>?_) l;rw [Acu]
    split
    ·simp;omega
    ·simp;omega
   have:=this x0;unfold Big;omega
  obtain ⟨b,hb⟩:=q18_.spec hlen;exact ⟨_,hb,hφ⟩
 | a::r,k,m,hd,hm=>by
  apply L1_step;have hk:=Aas hd;rw [if_pos (by omega)];refine ⟨a,Aaz hd,?_⟩;have htk:x0.take (k+1)=x0.take k++[a]:=by rw [List.take_add_one,Aae hd];rfl
  have hlen:(x0.take k).length=k:=by rw [List.length_take];omega
  have hle:(fsts (x0.take k)).length<=10000:=by
   have:∀ l:List ByteArray,(fsts l).length<=l.length:=by
    intro l;refine Aga (p:=fun l=>(fsts l).length<=l.length) (by simp [fsts]) (fun l b ih=>?_) l;rw [Acu]
    split
    ·simp;omega
    ·simp;omega
   have:=this (x0.take k);omega
  have hcl:∀ b,(cls (x0.take k) b).length<=10000:=fun b=>by
   unfold cls;rw [List.length_map];exact Nat.le_trans (List.length_filter_le _ _) (by simp;omega)
  by_cases ha:a∈fsts (x0.take k)
  ·have hg:mget a m=some ((ixn (fsts (x0.take k)) a:Nat):Int):=by rw [hm a,if_pos ha]
   rw [if_pos (by simp [mhas,hg])];apply L2_step;have hi:ixn (fsts (x0.take k)) a<(fsts (x0.take k)).length:=Bc9 ha;have hgd:Ah6 a m 0=((ixn (fsts (x0.take k)) a:Nat):Int):=by simp [Ah6,hg]
   rw [hgd];refine ⟨cls (x0.take k) a,?_,by have:=hcl a;omega,?_⟩
   ·rw [Ab5,List.getElem?_map,Ata ha];rfl
   ·rw [Aa4 (by omega)];have ih:=loop hn hφ r (k+1) m (Aa8 hd) (by rw [htk,Acu,if_pos ha];exact hm);rw [htk,Acu,if_pos ha] at ih;have e:(fsts (x0.take k)).map (cls (x0.take k++[a]))=lset ((fsts (x0.take k)).map (cls (x0.take k))) ((ixn (fsts (x0.take k)) a:Nat):Int) (cls (x0.take k) a++[(k:Int)]):=by
     unfold lset;rw [Int.toNat_natCast];apply List.ext_getElem?;intro q;rw [List.getElem?_map,List.getElem?_set,List.getElem?_map,List.length_map];by_cases hq:ixn (fsts (x0.take k)) a=q
     ·subst hq;rw [if_pos rfl,if_pos hi,Ata ha];simp [Ama,hlen]
     ·rw [if_neg hq];cases hv:(fsts (x0.take k))[q]? with
      | none=>rfl
      | some b=>
       simp only [Option.map_some,zJ];rw [Ama,if_neg];rintro rfl;exact hq (Awm Ba1 hv)
    rw [e] at ih;exact ih
  ·have hg:mget a m=none:=by rw [hm a,if_neg ha]
   rw [if_neg (by simp [mhas,hg])];have hal:a ∉ x0.take k:=fun h=>ha (Ahn.2 h);refine ⟨by rw [List.length_map];omega,?_⟩;apply L2_step;refine ⟨[],?_,by simp,?_⟩
   ·rw [Ab5,List.getElem?_append_right (Nat.le_refl _)];simp
   ·rw [Aa4 (by omega),List.length_map];have ih:=loop hn hφ r (k+1) (mset a ((fsts (x0.take k)).length:Int) m) (Aa8 hd) (by
     rw [htk,Acu,if_neg ha];intro b;rw [Ao6];by_cases hab:a=b
     ·subst hab;rw [if_pos rfl,if_pos (by simp),Awl ha]
     ·rw [if_neg hab,hm b];have:b∈fsts (x0.take k)++[a]↔b∈fsts (x0.take k):=by simp [Ne.symm hab]
      by_cases hb:b∈fsts (x0.take k)
      ·rw [if_pos hb,if_pos (this.2 hb),Bc8 hb]
      ·rw [if_neg hb,if_neg (fun h=>hb (this.1 h))])
    rw [htk,Acu,if_neg ha] at ih;have e:(fsts (x0.take k)++[a]).map (cls (x0.take k++[a]))=lset ((fsts (x0.take k)).map (cls (x0.take k))++[[]]) ((fsts (x0.take k)).length:Int) ([]++[(k:Int)]):=by
     unfold lset;rw [Int.toNat_natCast,List.set_append_right _ _ (by simp),List.length_map,Nat.sub_self,List.set_cons_zero,List.map_append];congr 1
     ·refine List.map_congr_left fun b hb=>?_;rw [Ama,if_neg];rintro rfl;exact ha hb
     ·simp [Ama,Bfq hal,hlen]
    rw [e] at ih;exact ih
theorem spec {x0:List ByteArray} (hn:x0.length<=10000):C x0 (grpF x0):=by
 obtain ⟨r,h1,h2⟩:=enter x0 (fun r=>r=grpF x0) (by
  have:=loop (φ:=fun r=>r=grpF x0) hn rfl x0 0 [] rfl (by intro a;simp [mget,fsts])
  simpa [fsts] using this)
 rw [← h1];exact h2
end q38_
section
variable {α β:Type} [DecidableEq α] [DecidableEq β]
structure Alike (l:List α) (m:List β):Prop where
 len:l.length=m.length
 iff:∀ i j:Nat,i<l.length->j<l.length->(l[i]? = l[j]?↔m[i]? = m[j]?)
theorem Bbt {l:List α} {m:List β} (h:Alike l m) {k:Nat} {a:α} {b:β} (ha:l[k]? = some a) (hb:m[k]? = some b):cls l a=cls m b:=by
 unfold cls;rw [h.len];congr 1;refine List.filter_congr fun i hi=>?_;have hk:=(List.getElem?_eq_some_iff.1 ha).1;have:=h.iff i k (by rw [h.len];simpa using hi) hk;rw [ha,hb] at this;rw [decide_eq_decide];exact this
theorem Aji {l:List α} {k:Nat} {a:α}:a∈l.take k↔∃ j,j<k/\l[j]? = some a:=by
 rw [List.mem_iff_getElem?];constructor
 ·rintro ⟨j,hj⟩;rw [List.getElem?_take] at hj
  split at hj
  ·rename_i h;exact ⟨j,h,hj⟩
  ·cases hj
 ·rintro ⟨j,h1,h2⟩;exact ⟨j,by rw [List.getElem?_take_of_lt h1];exact h2⟩
theorem Aes {l:List α} {k:Nat} {a:α} (h:l[k]? = some a):l.take (k+1)=l.take k++[a]:=by rw [List.take_add_one,h];rfl
theorem Aup {l:List α} {m:List β} (h:Alike l m):∀ k,k<=l.length->(fsts (l.take k)).map (cls l)=(fsts (m.take k)).map (cls m)
 | 0,_=>by simp [fsts]
 | k+1,hk=>by
  have ih:=Aup h k (by omega);have hl:=List.getElem?_eq_getElem (l:=l) (i:=k) (by omega);have hm:=List.getElem?_eq_getElem (l:=m) (i:=k) (by rw [← h.len];omega);rw [Aes hl,Aes hm,Acu,Acu];have e:l[k]∈fsts (l.take k)↔m[k]'(by rw [← h.len];omega)∈fsts (m.take k):=by
   rw [Ahn,Ahn,Aji,Aji];constructor
   ·rintro ⟨j,h1,h2⟩;refine ⟨j,h1,?_⟩;rw [← hm,← h.iff j k (by omega) (by omega),h2,hl]
   ·rintro ⟨j,h1,h2⟩;refine ⟨j,h1,?_⟩;rw [← hl,h.iff j k (by omega) (by omega),h2,hm]
  by_cases hin:l[k]∈fsts (l.take k)
  ·rw [if_pos hin,if_pos (e.1 hin)];exact ih
  ·rw [if_neg hin,if_neg (fun hh=>hin (e.2 hh)),List.map_append,List.map_append,ih];simp only [List.map_cons,List.map_nil,Bbt h hl hm]
theorem Ba3 {l:List α} {m:List β} (h:Alike l m):grpF l=grpF m:=by
 have:=Aup h l.length (Nat.le_refl _);rw [List.take_length,h.len,List.take_length] at this;unfold grpF;rw [this]
theorem Ar8 {l:List α} {a:α}:(cls l a).Pairwise (·<·):=by
 unfold cls;rw [List.pairwise_map];refine List.Pairwise.imp ?_ (List.pairwise_lt_range.filter _);intro i j h;omega
theorem Bfy {c:List Int} (h:c.Pairwise (·<·)) {i:Int} (hi:i∈c):c.headD 0<=i:=by
 match c,h,hi with
 | a::t,h,hi=>
  simp only [List.headD_cons];rcases List.mem_cons.1 hi with rfl | hi
  ·omega
  ·have:=(List.pairwise_cons.1 h).1 i hi;omega
theorem Bea {c:List Int} (h:c≠[]):c.headD 0∈c:=by
 match c,h with
 | a::t,_=>simp
theorem Bhz {l:List α} {a:α} (h:a∈l):cls l a≠[]:=by
 obtain ⟨k,hk⟩:=List.mem_iff_getElem?.1 h;intro hn;have:((k:Nat):Int)∈cls l a:=Aev.2 (by rw [Ab5];exact hk);rw [hn] at this;cases this
theorem Auc {l:List α}:∀ k,k<=l.length->((fsts (l.take k)).map (cls l)).Pairwise (fun c d=>c.headD 0<d.headD 0/\∀ i∈c,i ∉ d)/\∀ a∈fsts (l.take k),(cls l a).headD 0<(k:Int)
 | 0,_=>by simp [fsts]
 | k+1,hk=>by
  obtain ⟨i1,i2⟩:=Auc (l:=l) k (by omega);obtain ⟨x,hl⟩:∃ x,l[k]? = some x:=⟨_,List.getElem?_eq_getElem (by omega)⟩
  rw [Aes hl,Acu]
  split
  ·exact ⟨i1,fun a ha=>by have:=i2 a ha;omega⟩
  ·rename_i hin;have hne:=Bhz (List.mem_of_getElem? hl);have hkm:((k:Nat):Int)∈cls l x:=Aev.2 (by rw [Ab5];exact hl);have hhead:(cls l x).headD 0=(k:Int):=by
    have h1:=Bfy Ar8 hkm;have h2:=Aev.1 (Bea hne);obtain ⟨h3,h4⟩:=Aba h2;rcases Int.lt_or_le ((cls l x).headD 0) (k:Int) with h5 | h5
    ·exfalso;apply hin;rw [Ahn,Aji];exact ⟨_,by omega,h4⟩
    ·omega
   refine ⟨?_,?_⟩
   ·rw [List.map_append,List.pairwise_append];refine ⟨i1,by simp,fun c hc d hd=>?_⟩;simp only [List.map_cons,List.map_nil,List.mem_singleton] at hd;subst hd;obtain ⟨b,hb,rfl⟩:=List.mem_map.1 hc;refine ⟨by rw [hhead];exact i2 b hb,fun i hi hi2=>?_⟩;have e:=(Aev.1 hi).symm.trans (Aev.1 hi2);rw [Option.some.inj e] at hb;exact hin hb
   ·intro a ha;rcases List.mem_append.1 ha with ha | ha
    ·have:=i2 a ha;omega
    ·simp only [List.mem_singleton] at ha;subst ha;rw [hhead];omega
def part (l:List α):api_Partition:=⟨l.length,grpF l⟩
theorem Ajh {l:List α} {c:List Int}:c∈grpF l↔∃ a∈l,c=cls l a/\2<=c.length:=by
 unfold grpF;simp only [List.mem_filter,List.mem_map,decide_eq_true_eq];constructor
 ·rintro ⟨⟨a,h1,rfl⟩,h2⟩;exact ⟨a,Ahn.1 h1,rfl,h2⟩
 ·rintro ⟨a,h1,rfl,h2⟩;exact ⟨⟨a,Ahn.2 h1,rfl⟩,h2⟩
theorem Bhd {l:List α}:CP (l.length:Int) (grpF l):=by
 have hp:=(Auc (l:=l) l.length (Nat.le_refl _)).1;rw [List.take_length] at hp;have hp':(grpF l).Pairwise (fun c d=>c.headD 0<d.headD 0/\∀ i∈c,i ∉ d):=hp.filter _;refine ⟨fun c hc=>?_,fun c hc=>?_,fun c hc i hi=>?_,hp'.imp fun h=>h.1,hp'.imp fun h=>h.2⟩
 ·obtain ⟨a,_,_,h⟩:=Ajh.1 hc;exact h
 ·obtain ⟨a,_,rfl,_⟩:=Ajh.1 hc;exact Ar8
 ·obtain ⟨a,_,rfl,_⟩:=Ajh.1 hc;obtain ⟨h1,h2⟩:=Aba (Aev.1 hi);have:=(List.getElem?_eq_some_iff.1 h2).1;omega
theorem Amm {l:List α} (h:l.length<=1000):Acf (part l)=true:=Afi.2 ⟨by simp [part],by simp only [part];omega,Bhd⟩
theorem Bcr {l:List α} {i j:Int} (hi:0<=i/\i<l.length) (hj:0<=j/\j<l.length):Same (part l) i j↔lget l i=lget l j:=by
 constructor
 ·rintro (rfl | ⟨c,hc,h1,h2⟩)
  ·rfl
  ·obtain ⟨a,_,rfl,_⟩:=Ajh.1 hc;rw [Aev.1 h1,Aev.1 h2]
 ·intro h;by_cases hij:i=j
  ·exact .inl hij
  ·obtain ⟨a,ha⟩:=Afp (l:=l) hi.1 hi.2;have h1:i∈cls l a:=Aev.2 ha;have h2:j∈cls l a:=Aev.2 (h ▸ ha);refine .inr ⟨cls l a,Ajh.2 ⟨a,?_,rfl,?_⟩,h1,h2⟩
   ·exact List.mem_of_getElem? (Aba ha).2
   ·match hc:cls l a,h1,h2 with
    | [x],h1,h2=>simp at h1 h2;exact absurd (h1.trans h2.symm) hij
    | _::_::_,_,_=>simp
theorem Bal {l:List α} (h:l.length<=1000):Ahv (part l):=by
 obtain ⟨h1,h2⟩:=Bl9 (Amm h);exact ⟨by unfold Big;omega,fun c hc=>by have:=h2 c hc;unfold Big;omega⟩
end
theorem Bd9 {α β:Type} [DecidableEq α] [DecidableEq β] {l:List α} {m:List β} (hl:l.length=m.length) (h:∀ i j:Nat,i<l.length->j<l.length->(l[i]? = l[j]?↔m[i]? = m[j]?)):part l=part m:=by
 unfold part;rw [Ba3 (l:=l) (m:=m) ⟨hl,h⟩,hl]
section
variable {α:Type} [DecidableEq α]
end
end Go.Own
namespace Go.Own
open Go.Proofs D
set_option maxRecDepth 100000
set_option maxHeartbeats 4000000
namespace q92_
noncomputable def B:Code:=(Tryz.f22.body).getD .skip
def W:List Nat:=[0,1,2,4,5,6,7,8,9,11,12,13,21,22,23,24,28,29,30,31]
def res (r:api_Partition):D×List D:=(.agg [.lit (.int .i64 r.Rows),.sl (r.Classes.map (eSl (eI .i64)))],[])
def C (x0:api_Table) (x1:Int) (r:api_Partition):Prop:=Ret env 22 [.agg [.lit (.string x0.Name),.sl (x0.Attrs.map eS),.sl (x0.Rows.map Aa1)],.lit (.int .u32 x1)] (res r).1 (res r).2
def L1 (x0:api_Table) (r1:List Int) (z0:List ByteArray) (z1:Int) (φ:api_Partition->Prop):Prop:=Pt env 22 W B [1,1,1,0,1,0] [(0,.agg [.lit (.string x0.Name),.sl (x0.Attrs.map eS),.sl (x0.Rows.map Aa1)]),(2,.box [.lit (.string x0.Name),.sl (x0.Attrs.map eS),.sl (x0.Rows.map Aa1)]),(4,.box [.lit (.int .i64 0),.own []]),(5,.own (r1.map (eI .i64))),(6,.own (z0.map eS)),(21,.sl (x0.Rows.map Aa1)),(22,.lit (.int .i64 ((x0.Rows.length:Int)))),(23,.lit (.int .i64 z1))] (Lv env 22 Tryz.f22 2 res φ)
def L2 (x0:api_Table) (r1:List Int) (z0:List ByteArray) (z1:Int) (a3:api_Row) (z2:List UInt8) (z3 z4:Int) (φ:api_Partition->Prop):Prop:=Pt env 22 W B [1,1,1,0,1,0,0,1,1,0,0,1,1,0,1,0] [(0,.agg [.lit (.string x0.Name),.sl (x0.Attrs.map eS),.sl (x0.Rows.map Aa1)]),(2,.box [.lit (.string x0.Name),.sl (x0.Attrs.map eS),.sl (x0.Rows.map Aa1)]),(4,.box [.lit (.int .i64 0),.own []]),(5,.own (r1.map (eI .i64))),(6,.own (z0.map eS)),(7,.lit (.int .i64 z1)),(8,.box [.lit (.int .i64 a3.ID),.sl (a3.Values.map Aa3)]),(9,.bld 131 5 z2),(21,.sl (x0.Rows.map Aa1)),(22,.lit (.int .i64 ((x0.Rows.length:Int)))),(23,.lit (.int .i64 z3)),(28,.alias 5 []),(29,.lit (.int .i64 ((r1.length:Int)))),(30,.lit (.int .i64 z4))] (Lv env 22 Tryz.f22 2 res φ)
theorem L1_step (x0:api_Table) (r1:List Int) (z0:List ByteArray) (z1:Int) (φ:api_Partition->Prop) (h :
 (if z1<(x0.Rows.length:Int) then
 ∃ a3,lget x0.Rows z1=some a3 /\
 q92_.L2 x0 r1 z0 z1 a3 ([]) z1 0 φ
 else
 ∃ r5:List (List Int),q38_.C z0 r5 /\
 φ ((⟨(x0.Rows.length:Int),r5⟩:api_Partition)))):L1 x0 r1 z0 z1 φ:=
 mIn <|
 mAsk 2 h dT dF (fun h=>
 mIx 5 Aa1 h fun a3 h4 h=>
 mLen 10 (eI .i64) r1 <|
 mFin 2 h) fun h=>
 mXit 2 [(0,.agg [.lit (.string x0.Name),.sl (x0.Attrs.map eS),.sl (x0.Rows.map Aa1)]),(2,.box [.lit (.string x0.Name),.sl (x0.Attrs.map eS),.sl (x0.Rows.map Aa1)]),(4,.box [.lit (.int .i64 0),.own []]),(6,.sl (z0.map eS))] (Ayj (F0:=[(0,.agg [.lit (.string x0.Name),.sl (x0.Attrs.map eS),.sl (x0.Rows.map Aa1)]),(2,.box [.lit (.string x0.Name),.sl (x0.Attrs.map eS),.sl (x0.Rows.map Aa1)]),(4,.box [.lit (.int .i64 0),.own []]),(6,.own (z0.map eS))]) (l:=z0) (e:=eS) (e':=eS) (s:=6) (by kernel_rfl) (by kernel_rfl) (by kernel_rfl) (fun _=>rfl) (by kernel_rfl) (by kernel_rfl)) <|
 mLen 3 Aa1 x0.Rows <|
 mLo 1 h (fun _ h=>h) (hf:=(fun _=>Az3)) fun r5 _ h=>
 mRet 3 h
theorem L2_step (x0:api_Table) (r1:List Int) (z0:List ByteArray) (z1:Int) (a3:api_Row) (z2:List UInt8) (z3 z4:Int) (φ:api_Partition->Prop) (h :
 (if z4<(r1.length:Int) then
 ∃ a6,lget r1 z4=some a6 /\
 ∃ a8,lget a3.Values a6=some a8 /\
 ∃ r10:ByteArray×Int,q98_.C a8 r10 /\
 z2.length+r10.1.size<=140737488355328 /\
 q92_.L2 x0 r1 z0 z1 a3 ((z2++r10.1.data.toList)) z3 ((IntKind.wrap .i64 (z4+1))) φ
 else
 ∃ a12,lget z0 z1=some a12 /\
 q92_.L1 x0 r1 ((lset z0 z1 (bstr z2))) ((IntKind.wrap .i64 (z3+1))) φ)):L2 x0 r1 z0 z1 a3 z2 z3 z4 φ:=
 mIn <|
 mAsk 2 h dT dF (fun h=>
 mIy 4 (eI .i64) h fun a6 h7 h=>
 mLd 0 (eI .i64) h7 <|
 mIx 6 Aa3 h fun a8 h9 h=>
 mCal 1 h (fun _ h=>h) (hf:=(fun _=>Ab4 (Af8 (Aa2 rfl (Aa2 rfl Ab7))) rfl)) fun r10 _ h=>
 h.elim fun h11 h=>
 As2 8 (show Ret env 54 [.bld 131 5 z2,.lit (.string r10.1)] (.tup [.lit (.int .i64 ((Ag6 r10.1))),.lit .nilIface]) [.bld 131 5 ((z2++r10.1.data.toList))] from Bcv (by kernel_rfl) h11) (hf:=(Ab6)) <|
 mFin 5 h) fun h=>
 As2 6 (show Ret env 55 [.bld 131 5 z2] (.lit (.string ((bstr z2)))) [.box [.undef,.undef]] from Bar (by kernel_rfl)) <|
 mIy 0 eS h fun a12 h13 h=>
 mSto 0 eS ((bstr z2)) h13 <|
 mFin 5 h
theorem enter (x0:api_Table) (x1:Int) (φ:api_Partition->Prop) (h :
 ∃ r1:List Int,q69_.C x1 r1 /\
 (0<=(x0.Rows.length:Int)/\(x0.Rows.length:Int)*16<=281474976710656) /\
 q92_.L1 x0 r1 ((List.replicate x0.Rows.length (⟨#[]⟩:ByteArray))) 0 φ):∃ r,φ r/\C x0 x1 r:=
 mEnt (fd:=Tryz.f22) (body:=B) (V:=W) (res:=res) <|
 mCal 6 h (fun _ h=>h) (hf:=(fun _=>Ab4 (Abh (e:=(eI .i64)) (fun _=>rfl)) rfl)) fun r1 _ h=>
 mLen 5 Aa1 x0.Rows <|
 h.elim fun h2 h=>
 mVl 0 (Aqz (t:=27) (x:=(.tmp 18)) (y:=(.tmp 18)) (q:=.i64) (i:=(x0.Rows.length:Int)) (et:=9) (z:=.lit (.string ((⟨#[]⟩:ByteArray)))) (e:=eS) (a:=(⟨#[]⟩:ByteArray)) (k:=16) (by kernel_rfl) (by kernel_rfl) (by kernel_rfl) (by kernel_rfl) (by kernel_rfl) (by kernel_rfl) (by kernel_rfl) (by kernel_rfl) (by kernel_rfl) (by kernel_rfl) h2.1 h2.2) <|
 mLen 5 Aa1 x0.Rows <|
 mFin 2 h
end q92_
namespace q65_
noncomputable def B:Code:=(Tryz.f20.body).getD .skip
def W:List Nat:=[0,1,2,4]
def res (r:Bool):D×List D:=(.lit (.bool r),[])
def C (x0:api_Table) (x1:Int) (r:Bool):Prop:=Ret env 20 [.agg [.lit (.string x0.Name),.sl (x0.Attrs.map eS),.sl (x0.Rows.map Aa1)],.lit (.int .u32 x1)] (res r).1 (res r).2
theorem enter (x0:api_Table) (x1:Int) (φ:Bool->Prop) (h :
 0<=(x0.Attrs.length:Int) /\
 φ (((shrw .u64 (IntKind.wrap .u64 x1) (x0.Attrs.length:Int)) == 0))):∃ r,φ r/\C x0 x1 r:=
 mEnt (fd:=Tryz.f20) (body:=B) (V:=W) (res:=res) <|
 mLen 9 eS x0.Attrs <|
 h.elim fun h1 h=>
 mBi 0 (At0 (t:=122) (q:=.u64) (q':=.i64) (i1:=(IntKind.wrap .u64 x1)) h1) <|
 mRet 3 h
end q65_
namespace q42_
noncomputable def B:Code:=(Tryz.f52.body).getD .skip
def W:List Nat:=[0,1,2,4]
def res (r:Bool):D×List D:=(.lit (.bool r),[])
def C (x0:Int) (k1_0 k2_0:List Int) (r:Bool):Prop:=Ret env 52 [.lit (.int .i64 x0),.ref [.sl (k1_0.map (eI .i64))],.ref [.sl (k2_0.map (eI .i64))]] (res r).1 (res r).2
theorem enter (x0:Int) (k1_0 k2_0:List Int) (φ:Bool->Prop) (h :
 ∃ a1,lget k1_0 x0=some a1 /\
 ∃ a3,lget k2_0 0=some a3 /\
 ∃ a5,lget k1_0 a3=some a5 /\
 φ ((a1 != a5))):∃ r,φ r/\C x0 k1_0 k2_0 r:=
 mEnt (fd:=Tryz.f52) (body:=B) (V:=W) (res:=res) <|
 mIx 6 (eI .i64) h fun a1 h2 h=>
 mIx 3 (eI .i64) h fun a3 h4 h=>
 mIx 1 (eI .i64) h fun a5 h6 h=>
 mRet 4 h
end q42_
namespace q27_
noncomputable def B:Code:=(Tryz.f82.body).getD .skip
def W:List Nat:=[0,1,4,5,7,8,9,16]
def res (r:Int):D×List D:=(.lit (.int .i64 r),[])
def C (x0 k1_0 k1_1:List Int) (r:Int):Prop:=Ret env 82 [.sl (x0.map (eI .i64)),.fn 52 [.ref [.sl (k1_0.map (eI .i64))],.ref [.sl (k1_1.map (eI .i64))]]] (res r).1 (res r).2
def L1 (x0 k1_0 k1_1:List Int) (z0:Int) (φ:Int->Prop):Prop:=Pt env 82 W B [1,0,1,0] [(0,.sl (x0.map (eI .i64))),(1,.fn 52 [.ref [.sl (k1_0.map (eI .i64))],.ref [.sl (k1_1.map (eI .i64))]]),(7,.lit (.int .i64 ((x0.length:Int)))),(8,.lit (.int .i64 z0))] (Lv env 82 Tryz.f82 2 res φ)
theorem L1_step (x0 k1_0 k1_1:List Int) (z0:Int) (φ:Int->Prop) (h :
 (if z0<(x0.length:Int) then
 ∃ a1,lget x0 z0=some a1 /\
 ∃ r3:Bool,q42_.C a1 k1_0 k1_1 r3 /\
 (if r3=true then
 φ z0
 else
 q27_.L1 x0 k1_0 k1_1 ((IntKind.wrap .i64 (z0+1))) φ)
 else
 φ ((-1)))):L1 x0 k1_0 k1_1 z0 φ:=
 mIn <|
 mAsk 2 h dT dF (fun h=>
 mIx 11 (eI .i64) h fun a1 h2 h=>
 Abv 1 h (fun _ h=>h) (fun _ h=>
 mRet 6 h) fun _ h=>
 mFin 7 h) fun h=>
 mRet 6 h
theorem enter (x0 k1_0 k1_1:List Int) (φ:Int->Prop) (h :
 q27_.L1 x0 k1_0 k1_1 0 φ):∃ r,φ r/\C x0 k1_0 k1_1 r:=
 mEnt (fd:=Tryz.f82) (body:=B) (V:=W) (res:=res) <|
 mLen 5 (eI .i64) x0 <|
 mFin 2 h
end q27_
namespace q23_
noncomputable def B:Code:=(Tryz.f51.body).getD .skip
def W:List Nat:=[0,1,4]
def res (r:Bool):D×List D:=(.lit (.bool r),[])
def C (x0 k1_0 k1_1:List Int) (r:Bool):Prop:=Ret env 51 [.sl (x0.map (eI .i64)),.fn 52 [.ref [.sl (k1_0.map (eI .i64))],.ref [.sl (k1_1.map (eI .i64))]]] (res r).1 (res r).2
theorem enter (x0 k1_0 k1_1:List Int) (φ:Bool->Prop) (h :
 ∃ r1:Int,q27_.C x0 k1_0 k1_1 r1 /\
 φ ((decide (0<=r1)))):∃ r,φ r/\C x0 k1_0 k1_1 r:=
 mEnt (fd:=Tryz.f51) (body:=B) (V:=W) (res:=res) <|
 mCal 6 h (fun _ h=>h) fun r1 _ h=>
 mRet 3 h
end q23_
namespace q46_
noncomputable def B:Code:=(Tryz.f50.body).getD .skip
def W:List Nat:=[0,1,2,3]
def res (r:Bool):D×List D:=(.lit (.bool r),[])
def C (x0 k1_0:List Int) (r:Bool):Prop:=Ret env 50 [.sl (x0.map (eI .i64)),.ref [.sl (k1_0.map (eI .i64))]] (res r).1 (res r).2
theorem enter (x0 k1_0:List Int) (φ:Bool->Prop) (h :
 ∃ r1:Bool,q23_.C x0 k1_0 x0 r1 /\
 φ r1):∃ r,φ r/\C x0 k1_0 r:=
 mEnt (fd:=Tryz.f50) (body:=B) (V:=W) (res:=res) <|
 mCal 7 h (fun _ h=>h) fun r1 _ h=>
 mRet 2 h
end q46_
namespace q28_
noncomputable def B:Code:=(Tryz.f81.body).getD .skip
def W:List Nat:=[0,1,4,5,7,8,9,16]
def res (r:Int):D×List D:=(.lit (.int .i64 r),[])
def C (x0:List (List Int)) (k1_0:List Int) (r:Int):Prop:=Ret env 81 [.sl (x0.map (eSl (eI .i64))),.fn 50 [.ref [.sl (k1_0.map (eI .i64))]]] (res r).1 (res r).2
def L1 (x0:List (List Int)) (k1_0:List Int) (z0:Int) (φ:Int->Prop):Prop:=Pt env 81 W B [1,0,1,0] [(0,.sl (x0.map (eSl (eI .i64)))),(1,.fn 50 [.ref [.sl (k1_0.map (eI .i64))]]),(7,.lit (.int .i64 ((x0.length:Int)))),(8,.lit (.int .i64 z0))] (Lv env 81 Tryz.f81 2 res φ)
theorem L1_step (x0:List (List Int)) (k1_0:List Int) (z0:Int) (φ:Int->Prop) (h :
 (if z0<(x0.length:Int) then
 ∃ a1,lget x0 z0=some a1 /\
 ∃ r3:Bool,q46_.C a1 k1_0 r3 /\
 (if r3=true then
 φ z0
 else
 q28_.L1 x0 k1_0 ((IntKind.wrap .i64 (z0+1))) φ)
 else
 φ ((-1)))):L1 x0 k1_0 z0 φ:=
 mIn <|
 mAsk 2 h dT dF (fun h=>
 mIx 11 (eSl (eI .i64)) h fun a1 h2 h=>
 Abv 1 h (fun _ h=>h) (fun _ h=>
 mRet 6 h) fun _ h=>
 mFin 7 h) fun h=>
 mRet 6 h
theorem enter (x0:List (List Int)) (k1_0:List Int) (φ:Int->Prop) (h :
 q28_.L1 x0 k1_0 0 φ):∃ r,φ r/\C x0 k1_0 r:=
 mEnt (fd:=Tryz.f81) (body:=B) (V:=W) (res:=res) <|
 mLen 5 (eSl (eI .i64)) x0 <|
 mFin 2 h
end q28_
namespace q24_
noncomputable def B:Code:=(Tryz.f49.body).getD .skip
def W:List Nat:=[0,1,4]
def res (r:Bool):D×List D:=(.lit (.bool r),[])
def C (x0:List (List Int)) (k1_0:List Int) (r:Bool):Prop:=Ret env 49 [.sl (x0.map (eSl (eI .i64))),.fn 50 [.ref [.sl (k1_0.map (eI .i64))]]] (res r).1 (res r).2
theorem enter (x0:List (List Int)) (k1_0:List Int) (φ:Bool->Prop) (h :
 ∃ r1:Int,q28_.C x0 k1_0 r1 /\
 φ ((decide (0<=r1)))):∃ r,φ r/\C x0 k1_0 r:=
 mEnt (fd:=Tryz.f49) (body:=B) (V:=W) (res:=res) <|
 mCal 6 h (fun _ h=>h) fun r1 _ h=>
 mRet 3 h
end q24_
namespace q56_
noncomputable def B:Code:=(Tryz.f21.body).getD .skip
def W:List Nat:=[0,1,2,3,4,5,9]
def res (r:Bool):D×List D:=(.lit (.bool r),[])
def C (x0 x1:api_Partition) (r:Bool):Prop:=Ret env 21 [.agg [.lit (.int .i64 x0.Rows),.sl (x0.Classes.map (eSl (eI .i64)))],.agg [.lit (.int .i64 x1.Rows),.sl (x1.Classes.map (eSl (eI .i64)))]] (res r).1 (res r).2
theorem enter (x0 x1:api_Partition) (φ:Bool->Prop) (h :
 ∃ r1:Int,q80_.C x0 x1 r1 /\
 (if r1=0 then
 ∃ r2:List Int,q60_.C x1 r2 /\
 ∃ r3:Bool,q24_.C x0.Classes r2 r3 /\
 φ ((not r3))
 else
 φ false)):∃ r,φ r/\C x0 x1 r:=
 mEnt (fd:=Tryz.f21) (body:=B) (V:=W) (res:=res) <|
 mCal 8 h (fun _ h=>h) fun r1 _ h=>
 Ael 0 h Ae1 Ae0 (fun h=>
 mRet 5 h) fun h=>
 mCal 5 h (fun _ h=>h) (hf:=(fun _=>Ab4 (Abh (e:=(eI .i64)) (fun _=>rfl)) rfl)) fun r2 _ h=>
 mCal 7 h (fun _ h=>h) (hr:=by exact (pr_k (Agr (Bhl (Bax (Bez (s:=5) (ps:=[]) (by kernel_rfl) (Abl (Ac0 (e:=(eI .i64)) (e':=(eI .i64)) (fun _=>rfl) r2) Afn)) Bcz)) Ajm))) fun r3 _ h=>
 mRet 3 h
end q56_
end Go.Own
namespace Go.Own
theorem Bdr {a b:api_Partition} (h:Ak9 a b=0):Acf a=true/\Acf b=true/\a.Rows=b.Rows:=by
 unfold Ak9 at h
 split at h
 ·split at h
  ·split at h
   ·exact ⟨by assumption,by assumption,by assumption⟩
   ·omega
  ·omega
 ·omega
def Bad1 (l c:List Int) (i:Int):Prop:=lab1 l i≠lab1 l (c.headD 0)
structure In1 (l c:List Int):Prop where
 ne:c≠[]
 has:∀ i∈c,∃ a,lget l i=some a
theorem q42_.spec {l c:List Int} (h:In1 l c) {i:Int} (hi:i∈c):∃ b,q42_.C i l c b/\(b=true↔Bad1 l c i):=by
 obtain ⟨a,ha⟩:=h.has i hi;obtain ⟨h0,hh0⟩:∃ h0,c[0]? = some h0:=by
  match c,h.ne with
  | x::t,_=>exact ⟨x,rfl⟩
 have hd:c.headD 0=h0:=by
  match c,hh0 with
  | x::t,e=>simpa using e
 obtain ⟨b,hb⟩:=h.has h0 (List.mem_of_getElem? hh0);obtain ⟨r,h1,h2⟩:=q42_.enter i l c (fun r=>(r=true↔Bad1 l c i)) (by
  refine ⟨a,ha,h0,by have:=Ab5 (l:=c) (k:=0);rw [hh0] at this;exact this,b,hb,?_⟩;unfold Bad1;rw [hd,Az1 ha,Az1 hb]
  simp)
 exact ⟨r,h2,h1⟩
namespace q27_
theorem loop {l c:List Int} (h:In1 l c) (hn:c.length<Big):∀ (r:List Int) (k:Nat),c.drop k=r->(∀ i∈c.take k,¬ Bad1 l c i)->L1 c l c k (fun r=>(0<=r↔∃ i∈c,Bad1 l c i))
 | [],k,hd,hb=>by
  apply L1_step;have hk:=Aar hd;rw [if_neg (by omega)];rw [List.take_of_length_le hk] at hb;constructor
  ·intro h;omega
  ·rintro ⟨i,h1,h2⟩;exact absurd h2 (hb i h1)
 | i::r,k,hd,hb=>by
  apply L1_step;have hk:=Aas hd;have hi:=List.mem_of_getElem? (Aae hd);rw [if_pos (by omega)];obtain ⟨b,h1,h2⟩:=q42_.spec h hi;refine ⟨i,Aaz hd,b,h1,?_⟩
  split
  ·rename_i hbt;exact ⟨fun _=>⟨i,hi,h2.1 hbt⟩,fun _=>by omega⟩
  ·rename_i hbf;rw [Aa4 (by unfold Big at hn;omega)];refine loop h hn r (k+1) (Aa8 hd) fun j hj=>?_;rw [Aes (Aae hd)] at hj;rcases List.mem_append.1 hj with hj | hj
   ·exact hb j hj
   ·simp at hj;subst hj;exact fun hh=>hbf (h2.2 hh)
theorem spec {l c:List Int} (h:In1 l c) (hn:c.length<Big):∃ r,C c l c r/\(0<=r↔∃ i∈c,Bad1 l c i):=by
 obtain ⟨r,h1,h2⟩:=enter c l c (fun r=>(0<=r↔∃ i∈c,Bad1 l c i)) (loop h hn c 0 rfl (by simp));exact ⟨r,h2,h1⟩
end q27_
theorem q23_.spec {l c:List Int} (h:In1 l c) (hn:c.length<Big):∃ b,q23_.C c l c b/\(b=true↔∃ i∈c,Bad1 l c i):=by
 obtain ⟨r,h1,h2⟩:=q23_.enter c l c (fun b=>(b=true↔∃ i∈c,Bad1 l c i)) (by
  obtain ⟨q,q1,q2⟩:=q27_.spec h hn;refine ⟨q,q1,?_⟩
  rw [← q2];simp)
 exact ⟨r,h2,h1⟩
theorem q46_.spec {l c:List Int} (h:In1 l c) (hn:c.length<Big):∃ b,q46_.C c l b/\(b=true↔∃ i∈c,Bad1 l c i):=by
 obtain ⟨r,h1,h2⟩:=q46_.enter c l (fun b=>(b=true↔∃ i∈c,Bad1 l c i)) (q23_.spec h hn);exact ⟨r,h2,h1⟩
def Bad2 (l:List Int) (c:List Int):Prop:=∃ i∈c,Bad1 l c i
namespace q28_
theorem loop {l:List Int} {cs:List (List Int)} (h:∀ c∈cs,In1 l c) (hn:cs.length<Big) (hn2:∀ c∈cs,c.length<Big):∀ (r:List (List Int)) (k:Nat),cs.drop k=r->(∀ c∈cs.take k,¬ Bad2 l c)->L1 cs l k (fun r=>(0<=r↔∃ c∈cs,Bad2 l c))
 | [],k,hd,hb=>by
  apply L1_step;have hk:=Aar hd;rw [if_neg (by omega)];rw [List.take_of_length_le hk] at hb;constructor
  ·intro h;omega
  ·rintro ⟨i,h1,h2⟩;exact absurd h2 (hb i h1)
 | c::r,k,hd,hb=>by
  apply L1_step;have hk:=Aas hd;have hc:=List.mem_of_getElem? (Aae hd);rw [if_pos (by omega)];obtain ⟨b,h1,h2⟩:=q46_.spec (h c hc) (hn2 c hc);refine ⟨c,Aaz hd,b,h1,?_⟩
  split
  ·rename_i hbt;exact ⟨fun _=>⟨c,hc,h2.1 hbt⟩,fun _=>by omega⟩
  ·rename_i hbf;rw [Aa4 (by unfold Big at hn;omega)];refine loop h hn hn2 r (k+1) (Aa8 hd) fun j hj=>?_;rw [Aes (Aae hd)] at hj;rcases List.mem_append.1 hj with hj | hj
   ·exact hb j hj
   ·simp at hj;subst hj;exact fun hh=>hbf (h2.2 hh)
theorem spec {l:List Int} {cs:List (List Int)} (h:∀ c∈cs,In1 l c) (hn:cs.length<Big) (hn2:∀ c∈cs,c.length<Big):∃ r,C cs l r/\(0<=r↔∃ c∈cs,Bad2 l c):=by
 obtain ⟨r,h1,h2⟩:=enter cs l (fun r=>(0<=r↔∃ c∈cs,Bad2 l c)) (loop h hn hn2 cs 0 rfl (by simp));exact ⟨r,h2,h1⟩
end q28_
theorem q24_.spec {l:List Int} {cs:List (List Int)} (h:∀ c∈cs,In1 l c) (hn:cs.length<Big) (hn2:∀ c∈cs,c.length<Big):∃ b,q24_.C cs l b/\(b=true↔∃ c∈cs,Bad2 l c):=by
 obtain ⟨r,h1,h2⟩:=q24_.enter cs l (fun b=>(b=true↔∃ c∈cs,Bad2 l c)) (by
  obtain ⟨q,q1,q2⟩:=q28_.spec h hn hn2;refine ⟨q,q1,?_⟩
  rw [← q2];simp)
 exact ⟨r,h2,h1⟩
def RefP (a b:api_Partition):Prop:=Ak9 a b=0/\∀ i j,0<=i/\i<a.Rows->0<=j/\j<a.Rows->Same a i j->Same b i j
theorem q56_.spec {a b:api_Partition} (ha:Ahv a) (hb:Ahv b):∃ r,q56_.C a b r/\(r=true↔RefP a b):=by
 obtain ⟨r,h1,h2⟩:=q56_.enter a b (fun r=>(r=true↔RefP a b)) (by
  refine ⟨_,q80_.spec ha hb,?_⟩
  split
  ·rename_i h0;obtain ⟨va,vb,hr⟩:=Bdr h0;obtain ⟨v1,v2,v3⟩:=Afi.1 va;have hin:∀ c∈a.Classes,In1 (labN b) c:=fun c hc=>⟨fun hn=>by have:=v3.two c hc;rw [hn] at this;simp at this,fun i hi=>Afp (v3.inn c hc i hi).1 (by have:=(v3.inn c hc i hi).2;rw [Aql];omega)⟩
   obtain ⟨q,q1,q2⟩:=q24_.spec hin ha.1 ha.2;refine ⟨_,q60_.spec hb vb,q,q1,?_⟩;have key:(∃ c∈a.Classes,Bad2 (labN b) c)↔¬ RefP a b:=by
    have sm:∀ {i j:Int},0<=i/\i<a.Rows->0<=j/\j<a.Rows->(lab1 (labN b) i=lab1 (labN b) j↔Same b i j):=fun hi hj=>by
     rw [Beg (by rw [Aql];omega) (by rw [Aql];omega),Bch vb (by omega) (by omega)]
    constructor
    ·rintro ⟨c,hc,i,hi,hbad⟩ hR;have m1:=v3.inn c hc i hi;have hm:=Bc6 (v3.two c hc);have m2:=v3.inn c hc _ hm;exact hbad ((sm m1 m2).2 (hR.2 i _ m1 m2 (.inr ⟨c,hc,hi,hm⟩)))
    ·intro hR;apply Classical.byContradiction;intro hno;apply hR;refine ⟨h0,fun i j hi hj hs=>?_⟩;rcases hs with rfl | ⟨c,hc,h1,h2⟩
     ·exact .inl rfl
     ·have e:∀ k∈c,lab1 (labN b) k=lab1 (labN b) (c.headD 0):=fun k hk=>Classical.byContradiction fun hne=>hno ⟨c,hc,k,hk,hne⟩;exact (sm hi hj).1 ((e i h1).trans (e j h2).symm)
   cases q with
   | true=>simp only [Bool.not_true,Bool.false_eq_true,false_iff];exact key.1 (q2.1 rfl)
   | false=>
    simp only [Bool.not_false,true_iff];exact Classical.byContradiction fun hn=>by have:=q2.2 (key.2 hn);cases this
  ·rename_i h0;simp only [Bool.false_eq_true,false_iff]
   exact fun hR=>h0 hR.1)
 exact ⟨r,h2,h1⟩
structure Lbl (x:api_Partition) (r:List Int):Prop where
 has:∀ c∈x.Classes,∀ i∈c,∃ a,lget r i=some a
namespace drossref08_Removal
end drossref08_Removal
end Go.Own
namespace Go.Own
open Go.Proofs D
set_option maxRecDepth 100000
set_option maxHeartbeats 4000000
namespace q75_
noncomputable def B:Code:=(Tryz.f7.body).getD .skip
def W:List Nat:=[0,1,2,3,4,5,6,10,19]
def res (r:Bool×Int):D×List D:=(.tup [.lit (.bool r.1),.lit (.int .i64 r.2)],[])
def C (x0:api_Table) (x1:api_FD) (r:Bool×Int):Prop:=Ret env 7 [.agg [.lit (.string x0.Name),.sl (x0.Attrs.map eS),.sl (x0.Rows.map Aa1)],.agg [.lit (.int .u32 x1.Lhs),.lit (.int .u32 x1.Rhs)]] (res r).1 (res r).2
theorem enter (x0:api_Table) (x1:api_FD) (φ:Bool×Int->Prop) (h :
 ∃ r1:Int,q94_.C x0 r1 /\
 (if r1=0 then
 ∃ r2:Bool,q65_.C x0 ((bOr .u32 x1.Lhs x1.Rhs)) r2 /\
 (if r2=true then
 ∃ r3:api_Partition,q92_.C x0 x1.Lhs r3 /\
 ∃ r4:api_Partition,q92_.C x0 x1.Rhs r4 /\
 ∃ r5:Bool,q56_.C r3 r4 r5 /\
 φ ((r5,0))
 else
 φ ((false,6)))
 else
 φ ((false,r1)))):∃ r,φ r/\C x0 x1 r:=
 mEnt (fd:=Tryz.f7) (body:=B) (V:=W) (res:=res) <|
 mCal 8 h (fun _ h=>h) fun r1 _ h=>
 Ael 4 h Ae1 Ae0 (fun h=>
 mRet 7 h) fun h=>
 Abv 10 h (fun _ h=>h) (fun _ h=>
 mLo 8 h (fun _ h=>h) (hf:=(fun _=>Az3)) fun r3 _ h=>
 mCal 3 h (fun _ h=>h) (hf:=(fun _=>Ab6)) fun r4 _ h=>
 mCal 0 h (fun _ h=>h) fun r5 _ h=>
 mRet 3 h) fun _ h=>
 mRet 7 h
end q75_
namespace q76_
noncomputable def B:Code:=(Tryz.f6.body).getD .skip
def W:List Nat:=[0,1,4,5,6,7,13]
def res (r:List api_FD):D×List D:=(.own (r.map Abt),[])
def C (x0:Int) (x1:List drossref09_Dep) (r:List api_FD):Prop:=Ret env 6 [.lit (.int .i64 x0),.sl (x1.map Aay)] (res r).1 (res r).2
def L1 (x1:List drossref09_Dep) (r1:Int) (z0:List api_FD) (z1:Int) (φ:List api_FD->Prop):Prop:=Pt env 6 W B [1,1,1,0,1,0] [(1,.sl (x1.map Aay)),(5,.lit (.int .u32 r1)),(6,.own (z0.map Abt)),(7,.lit (.int .i64 z1))] (Lv env 6 Tryz.f6 2 res φ)
theorem L1_step (x1:List drossref09_Dep) (r1:Int) (z0:List api_FD) (z1:Int) (φ:List api_FD->Prop) (h :
 (if z1<(x1.length:Int) then
 ∃ a2,lget x1 z1=some a2 /\
 (z0.length+1)*8<=140737488355328 /\
 q76_.L1 x1 r1 ((z0++[(⟨(bAnd .u32 (IntKind.wrap .u32 a2.L) r1),(bAnd .u32 (IntKind.wrap .u32 a2.R) r1)⟩:api_FD)])) ((IntKind.wrap .i64 (z1+1))) φ
 else
 φ z0)):L1 x1 r1 z0 z1 φ:=
 mIn <|
 mLen 4 Aay x1 <|
 mAsk 0 h dT dF (fun h=>
 mIx 7 Aay h fun a2 h3 h=>
 mIxf 7 Aay h3 <|
 mApp 7 Abt z0 ([(⟨(bAnd .u32 (IntKind.wrap .u32 a2.L) r1),(bAnd .u32 (IntKind.wrap .u32 a2.R) r1)⟩:api_FD)]) h fun h=>
 mFin 7 h) fun h=>
 mRet 7 h
theorem enter (x0:Int) (x1:List drossref09_Dep) (φ:List api_FD->Prop) (h :
 ∃ r1:Int,q70_.C x0 r1 /\
 q76_.L1 x1 r1 ([]) 0 φ):∃ r,φ r/\C x0 x1 r:=
 mEnt (fd:=Tryz.f6) (body:=B) (V:=W) (res:=res) <|
 mCal 5 h (fun _ h=>h) fun r1 _ h=>
 mFin 8 h
end q76_
namespace q66_
def res (r:Bool):D×List D:=(.lit (.bool r),[])
def C  (r:Bool):Prop:=Ret env 5 [] (res r).1 (res r).2
end q66_
end Go.Own
namespace Go.Own
set_option maxRecDepth 1000000
theorem q66_.run:Abb env 400 5 []=some (.lit (.bool true),[]):=by kernel_rfl
theorem q66_.spec:q66_.C true:=Ret.of q66_.run
end Go.Own
namespace Go.Own
open Go.Proofs D
set_option maxRecDepth 100000
set_option maxHeartbeats 4000000
namespace drosstop_TopPlain
noncomputable def B:Code:=(Tryz.f3.body).getD .skip
def W:List Nat:=[0,1,2,3,4,5,6,7,8,9,10,11,13,14,15,16,17,18,19,30,48,50,51,52,53,63]
def res (r:Bool):D×List D:=(.lit (.bool r),[])
def C (x0:drossref03_Recipe) (x1:drossref09_Dep) (r:Bool):Prop:=Ret env 3 [.agg [.lit (.int .u8 x0.Attrs),.lit (.int .u8 x0.Gap),.sl (x0.Rows.map (eSl (eI .u8)))],.agg [.lit (.int .u8 x1.L),.lit (.int .u8 x1.R)]] (res r).1 (res r).2
def L1 (r1:api_Table×Bool) (a4:api_FD) (r6:Bool×Int) (z0:Bool) (r7:List api_CFD) (z1:Int) (φ:Bool->Prop):Prop:=Pt env 3 W B [1,1,1,1,1,1,1,1,0,1,0] [(5,.box [.lit (.string r1.1.Name),.sl (r1.1.Attrs.map eS),.sl (r1.1.Rows.map Aa1)]),(7,.lit (.int .i64 ((r1.1.Attrs.length:Int)))),(8,.box [.lit (.int .u32 a4.Lhs),.lit (.int .u32 a4.Rhs)]),(9,.lit (.bool r6.1)),(11,.lit (.bool z0)),(50,.sl (r7.map Aep)),(51,.lit (.int .i64 ((r7.length:Int)))),(52,.lit (.int .i64 z1))] (Lv env 3 Tryz.f3 2 res φ)
def L2  (φ:Bool->Prop):Prop:=Pt env 3 W B [1,1,0,1,0,0] [] (Lv env 3 Tryz.f3 2 res φ)
def L3 (r1:api_Table×Bool) (a4:api_FD) (r6:Bool×Int) (z0:Bool) (r7:List api_CFD) (z1:Int) (φ:Bool->Prop):Prop:=Pt env 3 W B [1,1,1,1,1,1,1,1,0,1,0,0,1,1,1] [(5,.box [.lit (.string r1.1.Name),.sl (r1.1.Attrs.map eS),.sl (r1.1.Rows.map Aa1)]),(7,.lit (.int .i64 ((r1.1.Attrs.length:Int)))),(8,.box [.lit (.int .u32 a4.Lhs),.lit (.int .u32 a4.Rhs)]),(9,.lit (.bool r6.1)),(11,.lit (.bool z0)),(50,.sl (r7.map Aep)),(51,.lit (.int .i64 ((r7.length:Int)))),(52,.lit (.int .i64 z1))] (Lv env 3 Tryz.f3 2 res φ)
theorem L1_step (r1:api_Table×Bool) (a4:api_FD) (r6:Bool×Int) (z0:Bool) (r7:List api_CFD) (z1:Int) (φ:Bool->Prop) (h :
 (if z1<(r7.length:Int) then
 ∃ a8,lget r7 z1=some a8 /\
 ∃ r10:Bool×Int,q55_.C r1.1 a8 r10 /\
 (if r10.2=0 then
 (if z0=true then
 drosstop_TopPlain.L3 r1 a4 r6 r10.1 r7 z1 φ
 else
 drosstop_TopPlain.L3 r1 a4 r6 false r7 z1 φ)
 else
 φ false)
 else
 ∃ r11:List api_Denial×Int,q88_.C ((r1.1.Attrs.length:Int)) a4 r11 /\
 ∃ r12:List (List Int)×Bool,q41_.C r1.1 r11.1 r12 /\
 (if r11.2=0 then
 (if r12.2=true then
 (if z0=r6.1 then
 φ ((((r12.1.length:Int) == 0) == r6.1))
 else
 φ false)
 else
 φ false)
 else
 φ false))):L1 r1 a4 r6 z0 r7 z1 φ:=
 mIn <|
 mAsk 2 h dT dF (fun h=>
 mIx 4 Aep h fun a8 h9 h=>
 mCal 7 h (fun _ h=>h) (hf:=(fun _=>Ab4 (Af8 (Aa2 rfl (Aa2 rfl Ab7))) rfl)) fun r10 _ h=>
 Ael 8 h Ae1 Ae0 (fun h=>
 mRet 5 h) fun h=>
 mAsk 4 h id fls (fun h=>
 mFin 5 h) fun h=>
 mFin 5 h) fun h=>
 Ap8 6 h (fun _ h=>h) (fun (r11:List api_Denial×Int)=>Amb rfl (Abl (Ac0 (e:=Ad9) (e':=Abz) (fun x=>(Abl rfl (Abl (Ac0 (e:=Aa6) (e':=Aa6) (fun _=>rfl) x.Atoms) Afn))) r11.1) (Abl rfl Afn))) (hf:=(fun _=>Ab4 (Af8 (Aa2 (Abh (e:=Ad9) (fun _=>(Aa2 rfl (Aa2 (Abh (e:=Aa6) (fun _=>rfl)) Ab7)))) (Aa2 rfl Ab7))) rfl)) fun r11 _ h=>
 Ap8 9 h (fun _ h=>h) (fun (r12:List (List Int)×Bool)=>Amb rfl (Abl (Ac0 (e:=(eSl (eI .i64))) (e':=(eSl (eI .i64))) (fun _=>rfl) r12.1) (Abl rfl Afn))) (hf:=(fun _=>Ab6)) fun r12 _ h=>
 mAsk 8 h Aaw Aav (fun h=>
 mAsk 1 h id fls (fun h=>
 mAsk 4 h Bhw Bhv (fun h=>
 mLen 3 (eSl (eI .i64)) r12.1 <|
 mRet 6 h) fun h=>
 mRet 10 h) fun h=>
 mRet 15 h) fun h=>
 mRet 17 h
theorem L2_step  (φ:Bool->Prop) (h :
 ∃ r13:Bool,q66_.C  r13 /\
 φ r13):L2  φ:=
 mIn <|
 mCal 1 h (fun _ h=>h) fun r13 _ h=>
 mRet 2 h
theorem L3_step (r1:api_Table×Bool) (a4:api_FD) (r6:Bool×Int) (z0:Bool) (r7:List api_CFD) (z1:Int) (φ:Bool->Prop) (h :
 drosstop_TopPlain.L1 r1 a4 r6 z0 r7 ((IntKind.wrap .i64 (z1+1))) φ):L3 r1 a4 r6 z0 r7 z1 φ:=
 mIn <|
 mFin 4 h
theorem enter (x0:drossref03_Recipe) (x1:drossref09_Dep) (φ:Bool->Prop) (h :
 ∃ r1:api_Table×Bool,q58_.C x0 7 r1 /\
 ∃ r2:Bool,q66_.C  r2 /\
 (if r2=true then
 (if r1.2=true then
 ∃ r3:List api_FD,q76_.C ((r1.1.Attrs.length:Int)) ([x1]) r3 /\
 ∃ a4,lget r3 0=some a4 /\
 ∃ r6:Bool×Int,q75_.C r1.1 a4 r6 /\
 (if r6.2=0 then
 ∃ r7:List api_CFD,q48_.C a4 r7 /\
 drosstop_TopPlain.L1 r1 a4 r6 true r7 0 φ
 else
 φ false)
 else
 drosstop_TopPlain.L2  φ)
 else
 drosstop_TopPlain.L2  φ)):∃ r,φ r/\C x0 x1 r:=
 mEnt (fd:=Tryz.f3) (body:=B) (V:=W) (res:=res) <|
 Ap8 7 h (fun _ h=>h) (fun (r1:api_Table×Bool)=>Amb rfl (Abl (Ba0 (Abl rfl (Abl (Ac0 (e:=eS) (e':=eS) (fun _=>rfl) r1.1.Attrs) (Abl (Ac0 (e:=Acq) (e':=Aa1) (fun x=>(Abl rfl (Abl (Ac0 (e:=Aa3) (e':=Aa3) (fun _=>rfl) x.Values) Afn))) r1.1.Rows) Afn)))) (Abl rfl Afn))) (hf:=(fun _=>Ab4 (Af8 (Aa2 (Adx (Aa2 rfl (Aa2 (Abh (e:=eS) (fun _=>rfl)) (Aa2 (Abh (e:=Acq) (fun _=>(Aa2 rfl (Aa2 (Abh (e:=Aa3) (fun _=>rfl)) Ab7)))) Ab7)))) (Aa2 rfl Ab7))) rfl)) fun r1 _ h=>
 Abv 8 h (fun _ h=>h) (fun _ h=>
 mAsk 2 h id fls (fun h=>
 mLen 8 eS r1.1.Attrs <|
 mCal 6 h (fun _ h=>h) (hr:=by exact (pr_k (Agr (Aj3 (s:=37) (ps:=[]) (l:=[x1]) (e:=Aay) (e':=Aay) (fun _=>rfl) (by kernel_rfl)) Ajm))) (hf:=(fun _=>Ab4 (Abh (e:=Abt) (fun _=>rfl)) rfl)) fun r3 _ h=>
 mIy 0 Abt h fun a4 h5 h=>
 mVl 0 (Aq9 (t:=37) (x:=(.tmp 39)) (s:=38) (ps:=[]) (n:=((0:Int).toNat)) (c:=0) (e:=Abt) (l:=r3) (a:=a4) (d:=.agg [.lit (.int .u32 a4.Lhs),.lit (.int .u32 a4.Rhs)]) (by kernel_rfl) (by kernel_rfl) (by kernel_rfl) (by kernel_rfl) (Aba h5).2 (by kernel_rfl)) <|
 mCal 6 h (fun _ h=>h) (hf:=(fun _=>Ab4 (Af8 (Aa2 rfl (Aa2 rfl Ab7))) rfl)) fun r6 _ h=>
 Ael 8 h Ae1 Ae0 (fun h=>
 mRet 5 h) fun h=>
 Ap8 8 h (fun _ h=>h) (fun (r7:List api_CFD)=>Bft (l:=r7) (e:=Aeu) (e':=Aep) rfl (fun x=>(Abl (Ac0 (e:=(eI .i64)) (e':=(eI .i64)) (fun _=>rfl) x.Lhs) (Abl rfl (Abl (Ac0 (e:=Aa5) (e':=Aa5) (fun _=>rfl) x.Pattern) Afn))))) (hf:=(fun _=>Ab4 (Abh (e:=Aeu) (fun _=>(Aa2 (Abh (e:=(eI .i64)) (fun _=>rfl)) (Aa2 rfl (Aa2 (Abh (e:=Aa5) (fun _=>rfl)) Ab7))))) rfl)) fun r7 _ h=>
 mLen 0 Aep r7 <|
 mFin 2 h) fun h=>
 mFin 4 h) fun _ h=>
 mFin 7 h
end drosstop_TopPlain
end Go.Own
