/- What the functions answer. No conditions. -/
import Derived.Test.YtmiedlcblpiemaaGreatDoorRefuteSmallestLaw8
set_option linter.all false
namespace Go.Own
open Go.Proofs D
set_option maxRecDepth 100000
set_option maxHeartbeats 4000000
namespace drosslaw20_RefuteSmallest
noncomputable def B:Code:=(Tryz.f7.body).getD .skip
def W:List Nat:=[0,1,2,3,4,5,6,7,37]
def res(r:Bool):D×List D:=(.lit (.bool r),[])
def C(x0:drosslaw20_Claim)(r:Bool):Prop:=Ret env 7 [.agg [.lit (.string x0.T.Name),.sl (x0.T.Attrs.map eS),.sl (x0.T.Rows.map Aa0),.sl (x0.FDs.map Aa6),.sl (x0.MVDs.map Aa5),.lit (.int .u32 x0.Goal.Lhs),.lit (.int .u32 x0.Goal.Rhs)]] (res r).1 (res r).2
def L1  (φ:Bool->Prop):Prop:=Pt env 7 W B [1,1,0,1,0,0] [] (Lv env 7 Tryz.f7 1 res φ)
def L2(x0:drosslaw20_Claim)(φ:Bool->Prop):Prop:=Pt env 7 W B [1,1,1,0] [(0,.agg [.lit (.string x0.T.Name),.sl (x0.T.Attrs.map eS),.sl (x0.T.Rows.map Aa0),.sl (x0.FDs.map Aa6),.sl (x0.MVDs.map Aa5),.lit (.int .u32 x0.Goal.Lhs),.lit (.int .u32 x0.Goal.Rhs)]),(1,.box [.lit (.string x0.T.Name),.sl (x0.T.Attrs.map eS),.sl (x0.T.Rows.map Aa0),.sl (x0.FDs.map Aa6),.sl (x0.MVDs.map Aa5),.lit (.int .u32 x0.Goal.Lhs),.lit (.int .u32 x0.Goal.Rhs)])] (Lv env 7 Tryz.f7 1 res φ)
theorem L1_step  (φ:Bool->Prop) (h:∃r8:Bool,q73_.C  r8/\φ r8):L1  φ:=mIn<|mCal 1 h (fun _ h=>h) fun r8 _ h=>mRet 2 h
theorem L2_step(x0:drosslaw20_Claim)(φ:Bool->Prop)(h:∃r9:api_Table×Int,q90_.C x0.T x0.FDs x0.MVDs x0.Goal r9/\∃r10:api_Table×Int,q41_.C x0.T x0.FDs x0.MVDs x0.Goal r10/\(if r9.2=r10.2 then ∃r11:Bool,q69_.C r9.1 r10.1 r11/\φ r11 else φ false)):L2 x0 φ:=mIn<|Awr 9 h (fun _ h=>h) (fun(r9:api_Table×Int)=>Axj rfl (Aat (Arx (Aat rfl (Aat (Abi (e:=eS) (e':=eS) (fun _=>rfl) r9.1.Attrs) (Aat (Abi (e:=Aa7) (e':=Aa0) (fun x=>(Aat rfl (Aat (Abi (e:=Aa2) (e':=Aa2) (fun _=>rfl) x.Values) Adg))) r9.1.Rows) Adg)))) (Aat rfl Adg))) (hf:=(fun _=>Aao (Ab1 (Aa3 (Acy (Aa3 rfl (Aa3 (Aa8 (e:=eS) (fun _=>rfl)) (Aa3 (Aa8 (e:=Aa7) (fun _=>(Aa3 rfl (Aa3 (Aa8 (e:=Aa2) (fun _=>rfl)) Aa9)))) Aa9)))) (Aa3 rfl Aa9))) rfl)) fun r9 _ h=>Awr 16 h (fun _ h=>h) (fun(r10:api_Table×Int)=>Axj rfl (Aat (Arx (Aat rfl (Aat (Abi (e:=eS) (e':=eS) (fun _=>rfl) r10.1.Attrs) (Aat (Abi (e:=Aa7) (e':=Aa0) (fun x=>(Aat rfl (Aat (Abi (e:=Aa2) (e':=Aa2) (fun _=>rfl) x.Values) Adg))) r10.1.Rows) Adg)))) (Aat rfl Adg))) (hf:=(fun _=>Aao (Ab1 (Aa3 (Acy (Aa3 rfl (Aa3 (Aa8 (e:=eS) (fun _=>rfl)) (Aa3 (Aa8 (e:=Aa7) (fun _=>(Aa3 rfl (Aa3 (Aa8 (e:=Aa2) (fun _=>rfl)) Aa9)))) Aa9)))) (Aa3 rfl Aa9))) rfl)) fun r10 _ h=>
 mAsk 10 h Ab8 Ab7 (fun h=>mCal 3 h (fun _ h=>h) fun r11 _ h=>mRet 3 h) fun h=>mRet 7 h
theorem enter(x0:drosslaw20_Claim)(φ:Bool->Prop)(h:∃r7:Bool,q73_.C  r7/\(if r7=true then(if 7<(x0.T.Rows.length:Int)then(if(x0.T.Rows.length:Int)<11 then L1  φ else(if 14<(x0.T.Rows.length:Int)then L1  φ else(if 6<(x0.FDs.length:Int)then L1  φ else(if 4<(x0.MVDs.length:Int)then L1  φ else L2 x0 φ))))else(if 14<(x0.T.Rows.length:Int)then L1  φ else(if 6<(x0.FDs.length:Int)then L1  φ else(if 4<(x0.MVDs.length:Int)then L1  φ else L2 x0 φ))))else L1  φ)):∃r,φ r/\C x0 r:=mEnt (fd:=Tryz.f7) (body:=B) (V:=W) (res:=res)<|mLen 8 Aa0 x0.T.Rows<|Aaw 3 h (fun _ h=>h) (fun _ h=>mAsk 3 h dT dF (fun h=>mAsk 2 h dT dF (fun h=>mFin 20 h) fun h=>mAsk 4 h dT dF (fun h=>mFin 15 h) fun h=>mLen 4 Aa6 x0.FDs<|mAsk 0 h dT dF (fun h=>mFin 9 h) fun h=>mLen 4 Aa5 x0.MVDs<|mAsk 0 h dT dF (fun h=>mFin 3 h) fun h=>mFin 4 h) fun h=>mAsk 7 h dT dF (fun h=>mFin 15 h) fun h=>mLen 4 Aa6 x0.FDs<|mAsk 0 h dT dF (fun h=>mFin 9 h) fun h=>mLen 4 Aa5 x0.MVDs<|mAsk 0 h dT dF (fun h=>mFin 3 h) fun h=>mFin 4 h) fun _ h=>mFin 27 h
end drosslaw20_RefuteSmallest
end Go.Own
