/- What the functions answer. No conditions. -/
import Derived.Test.YtmiedlcblpiemaaGreatDoorBase5
import Derived.Test.YtmiedlcblpiemaaGreatDoorOwn23
set_option linter.all false
open List renaming pairwise_cons->zA,mem_of_getElem?->zB,mem_cons->zC,replicate->zD,length_cons->zF,getElem?_cons_succ->zH,take->zI,length_map->zK,take_of_length_le->zL,take_add_one->zM,mem_append->zN,map_append->zO,getElem?_eq_some_iff->zP,mem_singleton->zR,filter_append->zS,getElem?_eq_getElem->zT,getElem?_append_right->zV,getElem?_map->zW,range->zX,take_length->zY,length_singleton->zZ,set_append_right->yA,mem_iff_getElem?->yB,replicate_succ->yC,filter_eq_self->yD,set_cons_zero->yE,mem_map->yF,pairwise_map->yH,filter_congr->yI,cons_append->yK,range_succ->yL,mem_filter->yM
open Option.some renaming inj->zE
open Int renaming tdiv->zG,toNat_natCast->zU
open Classical renaming byContradiction->zQ
open Bool renaming false_eq_true->yG
open Nat renaming le_refl->yJ
namespace Go.Own
open Go.Proofs D
set_option maxRecDepth 100000
set_option maxHeartbeats 4000000
namespace q25_
noncomputable def B:Code:=(Tryz.f106.body).getD .skip
def W:List Nat:=[0,1,4,5,7,8,9,16]
def res(r:Int):D×List D:=(.lit (.int .i64 r),[])
def C(x0:List ByteArray)(x1:ByteArray)(r:Int):Prop:=Ret env 106 [.sl (x0.map eS),.lit (.string x1)] (res r).1 (res r).2
def L1(x0:List ByteArray)(x1:ByteArray)(z0:Int)(φ:Int->Prop):Prop:=Pt env 106 W B [1,0,1,0] [(0,.sl (x0.map eS)),(1,.lit (.string x1)),(7,.lit (.int .i64 (x0.length:Int))),(8,.lit (.int .i64 z0))] (Lv env 106 Tryz.f106 2 res φ)
theorem L1_step(x0:List ByteArray)(x1:ByteArray)(z0:Int)(φ:Int->Prop)(h:(if z0<(x0.length:Int)then ∃a1,lget x0 z0=some a1/\(if x1.toList=a1.toList then φ z0 else L1 x0 x1 (IntKind.wrap .i64 (z0+1)) φ)else φ (-1))):L1 x0 x1 z0 φ:=mIn<|mAsk 2 h dT dF (fun h=>mIx 11 eS h fun a1 h2 h=>mAsk 1 h Al8 Al7 (fun h=>mRet 6 h) fun h=>mFin 7 h) fun h=>mRet 6 h
theorem enter(x0:List ByteArray)(x1:ByteArray)(φ:Int->Prop)(h:L1 x0 x1 0 φ):∃r,φ r/\C x0 x1 r:=mEnt (fd:=Tryz.f106) (body:=B) (V:=W) (res:=res)<|mLen 5 eS x0<|mFin 2 h
end q25_
namespace q23_
noncomputable def B:Code:=(Tryz.f85.body).getD .skip
def W:List Nat:=[0,1,4]
def res(r:Bool):D×List D:=(.lit (.bool r),[])
def C(x0:List ByteArray)(x1:ByteArray)(r:Bool):Prop:=Ret env 85 [.sl (x0.map eS),.lit (.string x1)] (res r).1 (res r).2
theorem enter(x0:List ByteArray)(x1:ByteArray)(φ:Bool->Prop)(h:∃r1:Int,q25_.C x0 x1 r1/\φ (decide (0<=r1))):∃r,φ r/\C x0 x1 r:=mEnt (fd:=Tryz.f85) (body:=B) (V:=W) (res:=res)<|mCal 6 h (fun _ h=>h) fun r1 _ h=>mRet 3 h
end q23_
namespace q104_
noncomputable def B:Code:=(Tryz.f84.body).getD .skip
def W:List Nat:=[0,2,3,4,5,16,18,19,20,56]
def res(r:Bool):D×List D:=(.lit (.bool r),[])
def C(x0:ByteArray)(r:Bool):Prop:=Ret env 84 [.lit (.string x0)] (res r).1 (res r).2
def L1(x0:ByteArray)(z0:Int)(φ:Bool->Prop):Prop:=Pt env 84 W B [1,1,0,1,0] [(0,.lit (.string x0)),(18,.lit (.int .i64 (Adf x0))),(19,.lit (.int .i64 z0))] (Lv env 84 Tryz.f84 1 res φ)
def L2(x0:ByteArray)(z0 z1:Int)(z2:Bool)(φ:Bool->Prop):Prop:=Pt env 84 W B [1,1,0,1,0,0,1,1,0,0,1,1,1,0] [(0,.lit (.string x0)),(3,.lit (.int .i64 z0)),(4,.lit (.int .u8 z1)),(5,.lit (.bool z2)),(18,.lit (.int .i64 (Adf x0))),(19,.lit (.int .i64 z0))] (Lv env 84 Tryz.f84 1 res φ)
def L3(x0:ByteArray)(z0:Int)(φ:Bool->Prop):Prop:=Pt env 84 W B [1,1,0,1,0,0,1,1,1] [(0,.lit (.string x0)),(18,.lit (.int .i64 (Adf x0))),(19,.lit (.int .i64 z0))] (Lv env 84 Tryz.f84 1 res φ)
theorem L1_step(x0:ByteArray)(z0:Int)(φ:Bool->Prop)(h:(if z0<(Adf x0)then ∃b1,((0:Int)<=z0/\x0[z0.toNat]?=some b1)/\(if 97<=(u8i b1)then(if(u8i b1)<=122 then L2 x0 z0 (u8i b1) true φ else(if 65<=(u8i b1)then(if(u8i b1)<=90 then L2 x0 z0 (u8i b1) true φ else L2 x0 z0 (u8i b1) ((u8i b1)==95) φ)else L2 x0 z0 (u8i b1) ((u8i b1)==95) φ))else(if 65<=(u8i b1)then(if(u8i b1)<=90 then L2 x0 z0 (u8i b1) true φ else L2 x0 z0 (u8i b1) ((u8i b1)==95) φ)else L2 x0 z0 (u8i b1) ((u8i b1)==95) φ))else φ true)):L1 x0 z0 φ:=mIn<|mAsk 2 h dT dF (fun h=>mSt 10 h fun b1 h=>mAsk 4 h dT dF (fun h=>mAsk 2 h dT dF (fun h=>mFin 15 h) fun h=>mAsk 3 h dT dF (fun h=>mAsk 2 h dT dF (fun h=>mFin 8 h) fun h=>mFin 8 h) fun h=>mFin 11 h) fun h=>mAsk 6 h dT dF (fun h=>mAsk 2 h dT dF (fun h=>mFin 8 h) fun h=>mFin 8 h) fun h=>mFin 11 h) fun h=>mRet 6 h
theorem L2_step(x0:ByteArray)(z0 z1:Int)(z2:Bool)(φ:Bool->Prop)(h:(if z2=true then L3 x0 z0 φ else(if z0=0 then φ false else(if z1<48 then φ false else(if 57<z1 then φ false else L3 x0 z0 φ))))):L2 x0 z0 z1 z2 φ:=mIn<|mAsk 1 h id fls (fun h=>mFin 16 h) fun h=>mAsk 3 h Ab8 Ab7 (fun h=>mRet 14 h) fun h=>mAsk 2 h dT dF (fun h=>mRet 11 h) fun h=>mAsk 3 h dT dF (fun h=>mRet 7 h) fun h=>mFin 5 h
theorem L3_step(x0:ByteArray)(z0:Int)(φ:Bool->Prop)(h:L1 x0 (IntKind.wrap .i64 (z0+1)) φ):L3 x0 z0 φ:=mIn<|mFin 4 h
theorem enter(x0:ByteArray)(φ:Bool->Prop)(h:(if x0.toList=(⟨#[]⟩:ByteArray).toList then φ false else(if 24<(Adf x0)then φ false else(if x0.toList=(⟨#[110,117,108,108]⟩:ByteArray).toList then φ false else L1 x0 0 φ)))):∃r,φ r/\C x0 r:=mEnt (fd:=Tryz.f84) (body:=B) (V:=W) (res:=res)<|mAsk 5 h Al8 Al7 (fun h=>mRet 14 h) fun h=>mAsk 3 h dT dF (fun h=>mRet 10 h) fun h=>mAsk 3 h Al8 Al7 (fun h=>mRet 6 h) fun h=>mFin 9 h
end q104_
namespace q112_
noncomputable def B:Code:=(Tryz.f109.body).getD .skip
def W:List Nat:=[0,1,2,4,5,15,20,31]
def res(r:Bool):D×List D:=(.lit (.bool r),[])
def C(x0:api_Value)(r:Bool):Prop:=Ret env 109 [.agg [.lit (.int .i64 x0.Kind),.lit (.int .i64 x0.Num),.lit (.string x0.Str)]] (res r).1 (res r).2
theorem enter(x0:api_Value)(φ:Bool->Prop)(h:(if x0.Kind=0 then(if x0.Num=0 then φ (x0.Str.toList==(⟨#[]⟩:ByteArray).toList)else φ false)else(if x0.Kind=1 then φ (x0.Str.toList==(⟨#[]⟩:ByteArray).toList)else(if x0.Kind=2 then(if x0.Num=0 then φ (decide ((Adf x0.Str)<=200))else φ false)else(if x0.Kind=3 then(if 1<=x0.Num then φ (x0.Str.toList==(⟨#[]⟩:ByteArray).toList)else φ false)else φ false))))):∃r,φ r/\C x0 r:=mEnt (fd:=Tryz.f109) (body:=B) (V:=W) (res:=res)<|mCon 12 h Ab8 Ab7 (fun h=>mAsk 3 h Ab8 Ab7 (fun h=>mRet 7 h) fun h=>mRet 7 h) fun h=>mCon 4 h Ab8 Ab7 (fun h=>mRet 6 h) fun h=>mCon 4 h Ab8 Ab7 (fun h=>mAsk 3 h Ab8 Ab7 (fun h=>mRet 8 h) fun h=>mRet 8 h) fun h=>mCon 4 h Ab8 Ab7 (fun h=>mAsk 3 h dT dF (fun h=>mRet 7 h) fun h=>mRet 7 h) fun h=>mRet 4 h
end q112_
namespace q38_
noncomputable def B:Code:=(Tryz.f108.body).getD .skip
def W:List Nat:=[0,1,2]
def res(r:Bool):D×List D:=(.lit (.bool r),[])
def C(x0:api_Value)(r:Bool):Prop:=Ret env 108 [.agg [.lit (.int .i64 x0.Kind),.lit (.int .i64 x0.Num),.lit (.string x0.Str)]] (res r).1 (res r).2
theorem enter(x0:api_Value)(φ:Bool->Prop)(h:∃r1:Bool,q112_.C x0 r1/\φ (not r1)):∃r,φ r/\C x0 r:=mEnt (fd:=Tryz.f108) (body:=B) (V:=W) (res:=res)<|mCal 6 h (fun _ h=>h) fun r1 _ h=>mRet 3 h
end q38_
namespace q2_
noncomputable def B:Code:=(Tryz.f133.body).getD .skip
def W:List Nat:=[0,1,4,5,7,8,9,16]
def res(r:Int):D×List D:=(.lit (.int .i64 r),[])
def C(x0:List api_Value)(r:Int):Prop:=Ret env 133 [.sl (x0.map Aa2),.fn 108 []] (res r).1 (res r).2
def L1(x0:List api_Value)(z0:Int)(φ:Int->Prop):Prop:=Pt env 133 W B [1,0,1,0] [(0,.sl (x0.map Aa2)),(1,.fn 108 []),(7,.lit (.int .i64 (x0.length:Int))),(8,.lit (.int .i64 z0))] (Lv env 133 Tryz.f133 2 res φ)
theorem L1_step(x0:List api_Value)(z0:Int)(φ:Int->Prop)(h:(if z0<(x0.length:Int)then ∃a1,lget x0 z0=some a1/\∃r3:Bool,q38_.C a1 r3/\(if r3=true then φ z0 else L1 x0 (IntKind.wrap .i64 (z0+1)) φ)else φ (-1))):L1 x0 z0 φ:=mIn<|mAsk 2 h dT dF (fun h=>mIx 11 Aa2 h fun a1 h2 h=>Aaw 1 h (fun _ h=>h) (fun _ h=>mRet 6 h) fun _ h=>mFin 7 h) fun h=>mRet 6 h
theorem enter(x0:List api_Value)(φ:Int->Prop)(h:L1 x0 0 φ):∃r,φ r/\C x0 r:=mEnt (fd:=Tryz.f133) (body:=B) (V:=W) (res:=res)<|mLen 5 Aa2 x0<|mFin 2 h
end q2_
namespace q0_
noncomputable def B:Code:=(Tryz.f107.body).getD .skip
def W:List Nat:=[0,1,4]
def res(r:Bool):D×List D:=(.lit (.bool r),[])
def C(x0:List api_Value)(r:Bool):Prop:=Ret env 107 [.sl (x0.map Aa2),.fn 108 []] (res r).1 (res r).2
theorem enter(x0:List api_Value)(φ:Bool->Prop)(h:∃r1:Int,q2_.C x0 r1/\φ (decide (0<=r1))):∃r,φ r/\C x0 r:=mEnt (fd:=Tryz.f107) (body:=B) (V:=W) (res:=res)<|mCal 6 h (fun _ h=>h) fun r1 _ h=>mRet 3 h
end q0_
namespace q46_
noncomputable def B:Code:=(Tryz.f86.body).getD .skip
def W:List Nat:=[0,2]
def res(r:Bool):D×List D:=(.lit (.bool r),[])
def C(x0:List api_Value)(r:Bool):Prop:=Ret env 86 [.sl (x0.map Aa2)] (res r).1 (res r).2
theorem enter(x0:List api_Value)(φ:Bool->Prop)(h:∃r1:Bool,q0_.C x0 r1/\φ (not r1)):∃r,φ r/\C x0 r:=mEnt (fd:=Tryz.f86) (body:=B) (V:=W) (res:=res)<|mCal 5 h (fun _ h=>h) fun r1 _ h=>mRet 3 h
end q46_
namespace q113_
noncomputable def B:Code:=(Tryz.f42.body).getD .skip
def W:List Nat:=[0,1,2,3,4,5,7,11,21,23,24,25,26,40,43,44,45,46,49,54,62]
def res(r:Int):D×List D:=(.lit (.int .i64 r),[])
def C(x0:api_Table)(r:Int):Prop:=Ret env 42 [.agg [.lit (.string x0.Name),.sl (x0.Attrs.map eS),.sl (x0.Rows.map Aa0)]] (res r).1 (res r).2
def L1(x0:api_Table)(z0:Int)(φ:Int->Prop):Prop:=Pt env 42 W B [1,1,1,0,1,0] [(0,.agg [.lit (.string x0.Name),.sl (x0.Attrs.map eS),.sl (x0.Rows.map Aa0)]),(1,.box [.lit (.string x0.Name),.sl (x0.Attrs.map eS),.sl (x0.Rows.map Aa0)]),(23,.sl (x0.Attrs.map eS)),(24,.lit (.int .i64 (x0.Attrs.length:Int))),(25,.lit (.int .i64 z0))] (Lv env 42 Tryz.f42 1 res φ)
def L2(x0:api_Table)(z0 z1:Int)(φ:Int->Prop):Prop:=Pt env 42 W B [1,1,1,1,1,0,1,0] [(0,.agg [.lit (.string x0.Name),.sl (x0.Attrs.map eS),.sl (x0.Rows.map Aa0)]),(1,.box [.lit (.string x0.Name),.sl (x0.Attrs.map eS),.sl (x0.Rows.map Aa0)]),(5,.lit (.int .i64 z0)),(43,.sl (x0.Rows.map Aa0)),(44,.lit (.int .i64 (x0.Rows.length:Int))),(45,.lit (.int .i64 z1))] (Lv env 42 Tryz.f42 1 res φ)
theorem L1_step(x0:api_Table)(z0:Int)(φ:Int->Prop)(h:(if z0<(x0.Attrs.length:Int)then ∃a2,lget x0.Attrs z0=some a2/\∃r4:Bool,q104_.C a2 r4/\(if r4=true then 0<=z0/\(0<=z0.toNat/\z0.toNat<=x0.Attrs.length)/\∃r7:Bool,q23_.C (zI (z0.toNat-0) x0.Attrs) a2 r7/\(if r7=true then φ 1 else L1 x0 (IntKind.wrap .i64 (z0+1)) φ)else φ 1)else L2 x0 0 0 φ)):L1 x0 z0 φ:=mIn<|mAsk 2 h dT dF (fun h=>mIx 5 eS h fun a2 h3 h=>Aaw 6 h (fun _ h=>h) (fun _ h=>h.elim fun h5 h=>h.elim fun h6 h=>mVl 5 (Ap2 (t:=37) (x:=(.tmp 35)) (lo:=none) (hi:=(some (.tmp 36))) (lo':=none) (hi':=some z0.toNat) (e:=eS) (l:=x0.Attrs) (et:=9) (k:=1) (by kernel_rfl) (by kernel_rfl) Af5 (Ae7 (i:=z0) (q:=.i64) (by kernel_rfl) h5) (by kernel_rfl) (by kernel_rfl) (fun _=>rfl) (by kernel_rfl) h6.1 h6.2)<|Aaw 1 h (fun _ h=>h) (fun _ h=>mRet 6 h) fun _ h=>mFin 8 h) fun _ h=>mRet 14 h) fun h=>mLen 9 Aa0 x0.Rows<|mFin 2 h
theorem L2_step(x0:api_Table)(z0 z1:Int)(φ:Int->Prop)(h:(if z1<(x0.Rows.length:Int)then ∃a8,lget x0.Rows z1=some a8/\(if a8.ID<=z0 then φ 1 else(if(a8.Values.length:Int)=(x0.Attrs.length:Int)then ∃r10:Bool,q46_.C a8.Values r10/\(if r10=true then L2 x0 a8.ID (IntKind.wrap .i64 (z1+1)) φ else φ 1)else φ 6))else φ 0)):L2 x0 z0 z1 φ:=mIn<|mAsk 2 h dT dF (fun h=>mIx 4 Aa0 h fun a8 h9 h=>mCon 11 h dT dF (fun h=>mRet 3 h) fun h=>mLen 3 Aa2 a8.Values<|mLen 2 eS x0.Attrs<|Bh3 3 h Aby Abx (fun h=>mRet 3 h) fun h=>mCal 3 h (fun _ h=>h) fun r10 _ h=>Bh3 3 h (fun h=>fls (Awu h)) (fun h=>id (Awt h)) (fun h=>mRet 3 h) fun h=>mFin 10 h) fun h=>mRet 6 h
theorem enter(x0:api_Table)(φ:Int->Prop)(h:∃r1:Bool,q104_.C x0.Name r1/\(if r1=true then(if 16<(x0.Attrs.length:Int)then φ 3 else(if 1000<(x0.Rows.length:Int)then φ 3 else L1 x0 0 φ))else φ 1)):∃r,φ r/\C x0 r:=mEnt (fd:=Tryz.f42) (body:=B) (V:=W) (res:=res)<|Aaw 7 h (fun _ h=>h) (fun _ h=>mLen 7 eS x0.Attrs<|mAsk 0 h dT dF (fun h=>mRet 11 h) fun h=>mLen 3 Aa0 x0.Rows<|mAsk 0 h dT dF (fun h=>mRet 6 h) fun h=>mLen 7 eS x0.Attrs<|mFin 2 h) fun _ h=>mRet 6 h
end q113_
namespace q57_
noncomputable def B:Code:=(Tryz.f79.body).getD .skip
def W:List Nat:=[0,1,2,4,5,15,20]
def res(r:Bool):D×List D:=(.lit (.bool r),[])
def C(x0:api_Value)(r:Bool):Prop:=Ret env 79 [.agg [.lit (.int .i64 x0.Kind),.lit (.int .i64 x0.Num),.lit (.string x0.Str)]] (res r).1 (res r).2
theorem enter(x0:api_Value)(φ:Bool->Prop)(h:(if x0.Kind=0 then(if x0.Num=0 then φ (x0.Str.toList==(⟨#[]⟩:ByteArray).toList)else φ false)else(if x0.Kind=1 then φ (x0.Str.toList==(⟨#[]⟩:ByteArray).toList)else(if x0.Kind=2 then(if x0.Num=0 then φ (decide ((Adf x0.Str)<=200))else φ false)else(if x0.Kind=3 then(if 1<=x0.Num then φ (x0.Str.toList==(⟨#[]⟩:ByteArray).toList)else φ false)else φ false))))):∃r,φ r/\C x0 r:=mEnt (fd:=Tryz.f79) (body:=B) (V:=W) (res:=res)<|mCon 12 h Ab8 Ab7 (fun h=>mAsk 3 h Ab8 Ab7 (fun h=>mRet 7 h) fun h=>mRet 7 h) fun h=>mCon 4 h Ab8 Ab7 (fun h=>mRet 6 h) fun h=>mCon 4 h Ab8 Ab7 (fun h=>mAsk 3 h Ab8 Ab7 (fun h=>mRet 8 h) fun h=>mRet 8 h) fun h=>mAsk 4 h Ab8 Ab7 (fun h=>mAsk 3 h dT dF (fun h=>mRet 8 h) fun h=>mRet 8 h) fun h=>mRet 12 h
end q57_
namespace q47_
noncomputable def B:Code:=(Tryz.f39.body).getD .skip
def W:List Nat:=[0,2,3,7,15]
def res(r:Bool):D×List D:=(.lit (.bool r),[])
def C(x0:List api_Value)(r:Bool):Prop:=Ret env 39 [.sl (x0.map Aa2)] (res r).1 (res r).2
def L1(x0:List api_Value)(z0:Int)(φ:Bool->Prop):Prop:=Pt env 39 W B [1,0,1,0] [(0,.sl (x0.map Aa2)),(3,.lit (.int .i64 z0))] (Lv env 39 Tryz.f39 1 res φ)
theorem L1_step(x0:List api_Value)(z0:Int)(φ:Bool->Prop)(h:(if z0<(x0.length:Int)then ∃a1,lget x0 z0=some a1/\∃r3:Bool,q57_.C a1 r3/\(if r3=true then L1 x0 (IntKind.wrap .i64 (z0+1)) φ else φ false)else φ true)):L1 x0 z0 φ:=mIn<|mLen 4 Aa2 x0<|mAsk 0 h dT dF (fun h=>mIx 6 Aa2 h fun a1 h2 h=>Aaw 1 h (fun _ h=>h) (fun _ h=>mFin 9 h) fun _ h=>mRet 6 h) fun h=>mRet 6 h
theorem enter(x0:List api_Value)(φ:Bool->Prop)(h:L1 x0 0 φ):∃r,φ r/\C x0 r:=mEnt (fd:=Tryz.f39) (body:=B) (V:=W) (res:=res)<|mFin 6 h
end q47_
namespace q48_
noncomputable def B:Code:=(Tryz.f77.body).getD .skip
def W:List Nat:=[0,2]
def res(r:Bool):D×List D:=(.lit (.bool r),[])
def C(x0:Int)(r:Bool):Prop:=Ret env 77 [.lit (.int .u8 x0)] (res r).1 (res r).2
theorem enter(x0:Int)(φ:Bool->Prop)(h:(if 97<=x0 then(if x0<=122 then φ true else(if 65<=x0 then(if x0<=90 then φ true else φ (x0==95))else φ (x0==95)))else(if 65<=x0 then(if x0<=90 then φ true else φ (x0==95))else φ (x0==95)))):∃r,φ r/\C x0 r:=mEnt (fd:=Tryz.f77) (body:=B) (V:=W) (res:=res)<|mAsk 5 h dT dF (fun h=>mAsk 2 h dT dF (fun h=>mRet 15 h) fun h=>mAsk 3 h dT dF (fun h=>mAsk 2 h dT dF (fun h=>mRet 8 h) fun h=>mRet 8 h) fun h=>mRet 11 h) fun h=>mAsk 6 h dT dF (fun h=>mAsk 2 h dT dF (fun h=>mRet 8 h) fun h=>mRet 8 h) fun h=>mRet 11 h
end q48_
namespace q74_
noncomputable def B:Code:=(Tryz.f37.body).getD .skip
def W:List Nat:=[0,2,3,21,25,44]
def res(r:Bool):D×List D:=(.lit (.bool r),[])
def C(x0:ByteArray)(r:Bool):Prop:=Ret env 37 [.lit (.string x0)] (res r).1 (res r).2
def L1(x0:ByteArray)(z0:Int)(φ:Bool->Prop):Prop:=Pt env 37 W B [1,1,0,1,0] [(0,.lit (.string x0)),(3,.lit (.int .i64 z0))] (Lv env 37 Tryz.f37 1 res φ)
def L2(x0:ByteArray)(z0:Int)(φ:Bool->Prop):Prop:=Pt env 37 W B [1,1,0,1,0,0,1,1] [(0,.lit (.string x0)),(3,.lit (.int .i64 z0))] (Lv env 37 Tryz.f37 1 res φ)
theorem L1_step(x0:ByteArray)(z0:Int)(φ:Bool->Prop)(h:(if z0<(Adf x0)then ∃b5,((0:Int)<=z0/\x0[z0.toNat]?=some b5)/\∃r8:Bool,q48_.C (u8i b5) r8/\(if r8=true then L2 x0 z0 φ else ∃b9,((0:Int)<=z0/\x0[z0.toNat]?=some b9)/\(if(u8i b9)<48 then φ false else ∃b12,((0:Int)<=z0/\x0[z0.toNat]?=some b12)/\(if 57<(u8i b12)then φ false else L2 x0 z0 φ)))else φ true)):L1 x0 z0 φ:=mIn<|mAsk 5 h dT dF (fun h=>mSt 6 h fun b5 h=>Aaw 0 h (fun _ h=>h) (fun _ h=>mFin 16 h) fun _ h=>mSt 4 h fun b9 h=>mAsk 0 h dT dF (fun h=>mRet 12 h) fun h=>mSt 3 h fun b12 h=>mAsk 0 h dT dF (fun h=>mRet 7 h) fun h=>mFin 5 h) fun h=>mRet 6 h
theorem L2_step(x0:ByteArray)(z0:Int)(φ:Bool->Prop)(h:L1 x0 (IntKind.wrap .i64 (z0+1)) φ):L2 x0 z0 φ:=mIn<|mFin 5 h
theorem enter(x0:ByteArray)(φ:Bool->Prop)(h:(if(Adf x0)=0 then φ false else(if 24<(Adf x0)then φ false else ∃b1,((0:Int)<=0/\x0[(0:Int).toNat]?=some b1)/\∃r4:Bool,q48_.C (u8i b1) r4/\(if r4=true then(if x0.toList=(⟨#[110,117,108,108]⟩:ByteArray).toList then φ false else L1 x0 0 φ)else φ false)))):∃r,φ r/\C x0 r:=mEnt (fd:=Tryz.f37) (body:=B) (V:=W) (res:=res)<|mAsk 6 h Ab8 Ab7 (fun h=>mRet 20 h) fun h=>mAsk 3 h dT dF (fun h=>mRet 16 h) fun h=>mSt 3 h fun b1 h=>Aaw 0 h (fun _ h=>h) (fun _ h=>mAsk 4 h Al8 Al7 (fun h=>mRet 6 h) fun h=>mFin 7 h) fun _ h=>mRet 11 h
end q74_
namespace q75_
noncomputable def B:Code:=(Tryz.f78.body).getD .skip
def W:List Nat:=[0,1,4,5,9,17]
def res(r:Int):D×List D:=(.lit (.int .i64 r),[])
def C(x0:List ByteArray)(x1:ByteArray)(r:Int):Prop:=Ret env 78 [.sl (x0.map eS),.lit (.string x1)] (res r).1 (res r).2
def L1(x0:List ByteArray)(x1:ByteArray)(z0:Int)(φ:Int->Prop):Prop:=Pt env 78 W B [1,0,1,0] [(0,.sl (x0.map eS)),(1,.lit (.string x1)),(5,.lit (.int .i64 z0))] (Lv env 78 Tryz.f78 2 res φ)
theorem L1_step(x0:List ByteArray)(x1:ByteArray)(z0:Int)(φ:Int->Prop)(h:(if z0<(x0.length:Int)then ∃a1,lget x0 z0=some a1/\(if a1.toList=x1.toList then φ z0 else L1 x0 x1 (IntKind.wrap .i64 (z0+1)) φ)else φ (-1))):L1 x0 x1 z0 φ:=mIn<|mLen 4 eS x0<|mAsk 0 h dT dF (fun h=>mIx 6 eS h fun a1 h2 h=>mAsk 2 h Al8 Al7 (fun h=>mRet 6 h) fun h=>mFin 8 h) fun h=>mRet 6 h
theorem enter(x0:List ByteArray)(x1:ByteArray)(φ:Int->Prop)(h:L1 x0 x1 0 φ):∃r,φ r/\C x0 x1 r:=mEnt (fd:=Tryz.f78) (body:=B) (V:=W) (res:=res)<|mFin 6 h
end q75_
namespace q58_
noncomputable def B:Code:=(Tryz.f38.body).getD .skip
def W:List Nat:=[0,2,3,7,26]
def res(r:Bool):D×List D:=(.lit (.bool r),[])
def C(x0:List ByteArray)(r:Bool):Prop:=Ret env 38 [.sl (x0.map eS)] (res r).1 (res r).2
def L1(x0:List ByteArray)(z0:Int)(φ:Bool->Prop):Prop:=Pt env 38 W B [1,0,1,0] [(0,.sl (x0.map eS)),(3,.lit (.int .i64 z0))] (Lv env 38 Tryz.f38 1 res φ)
theorem L1_step(x0:List ByteArray)(z0:Int)(φ:Bool->Prop)(h:(if z0<(x0.length:Int)then ∃a1,lget x0 z0=some a1/\∃r3:Bool,q74_.C a1 r3/\(if r3=true then 0<=z0/\(0<=z0.toNat/\z0.toNat<=x0.length)/\∃r6:Int,q75_.C (zI (z0.toNat-0) x0) a1 r6/\(if 0<=r6 then φ false else L1 x0 (IntKind.wrap .i64 (z0+1)) φ)else φ false)else φ true)):L1 x0 z0 φ:=mIn<|mLen 4 eS x0<|mAsk 0 h dT dF (fun h=>mIx 6 eS h fun a1 h2 h=>Aaw 1 h (fun _ h=>h) (fun _ h=>h.elim fun h4 h=>h.elim fun h5 h=>mVl 4 (Ap2 (t:=37) (x:=(.tmp 17)) (lo:=none) (hi:=(some (.tmp 18))) (lo':=none) (hi':=some z0.toNat) (e:=eS) (l:=x0) (et:=9) (k:=1) (by kernel_rfl) (by kernel_rfl) Af5 (Ae7 (i:=z0) (q:=.i64) (by kernel_rfl) h4) (by kernel_rfl) (by kernel_rfl) (fun _=>rfl) (by kernel_rfl) h5.1 h5.2)<|mIxf 2 eS h2<|mCal 1 h (fun _ h=>h) fun r6 _ h=>mAsk 0 h dT dF (fun h=>mRet 6 h) fun h=>mFin 9 h) fun _ h=>mRet 17 h) fun h=>mRet 6 h
theorem enter(x0:List ByteArray)(φ:Bool->Prop)(h:L1 x0 0 φ):∃r,φ r/\C x0 r:=mEnt (fd:=Tryz.f38) (body:=B) (V:=W) (res:=res)<|mFin 6 h
end q58_
namespace q59_
noncomputable def B:Code:=(Tryz.f14.body).getD .skip
def W:List Nat:=[0,1,2,3,4,5,9,19,23,28,39,48,52]
def res(r:Int):D×List D:=(.lit (.int .i64 r),[])
def C(x0:api_Table)(r:Int):Prop:=Ret env 14 [.agg [.lit (.string x0.Name),.sl (x0.Attrs.map eS),.sl (x0.Rows.map Aa0)]] (res r).1 (res r).2
def L1(x0:api_Table)(z0 z1:Int)(φ:Int->Prop):Prop:=Pt env 14 W B [1,1,1,1,1,0,1,0] [(0,.agg [.lit (.string x0.Name),.sl (x0.Attrs.map eS),.sl (x0.Rows.map Aa0)]),(1,.box [.lit (.string x0.Name),.sl (x0.Attrs.map eS),.sl (x0.Rows.map Aa0)]),(3,.lit (.int .i64 z0)),(4,.lit (.int .i64 z1))] (Lv env 14 Tryz.f14 1 res φ)
theorem L1_step(x0:api_Table)(z0 z1:Int)(φ:Int->Prop)(h:(if z1<(x0.Rows.length:Int)then ∃a3,lget x0.Rows z1=some a3/\(if a3.ID<=z0 then φ 1 else(if(a3.Values.length:Int)=(x0.Attrs.length:Int)then ∃r5:Bool,q47_.C a3.Values r5/\(if r5=true then L1 x0 a3.ID (IntKind.wrap .i64 (z1+1)) φ else φ 1)else φ 6))else φ 0)):L1 x0 z0 z1 φ:=mIn<|mLen 5 Aa0 x0.Rows<|mAsk 0 h dT dF (fun h=>mIx 7 Aa0 h fun a3 h4 h=>mAsk 8 h dT dF (fun h=>mRet 5 h) fun h=>mLen 11 Aa2 a3.Values<|mLen 2 eS x0.Attrs<|Abs 0 h Aby Abx (fun h=>mRet 5 h) fun h=>Aaw 6 h (fun _ h=>h) (fun _ h=>mFin 9 h) fun _ h=>mRet 6 h) fun h=>mRet 6 h
theorem enter(x0:api_Table)(φ:Int->Prop)(h:∃r1:Bool,q74_.C x0.Name r1/\(if r1=true then(if 16<(x0.Attrs.length:Int)then φ 3 else(if 1000<(x0.Rows.length:Int)then φ 3 else ∃r2:Bool,q58_.C x0.Attrs r2/\(if r2=true then L1 x0 0 0 φ else φ 1)))else φ 1)):∃r,φ r/\C x0 r:=mEnt (fd:=Tryz.f14) (body:=B) (V:=W) (res:=res)<|Aaw 7 h (fun _ h=>h) (fun _ h=>mLen 7 eS x0.Attrs<|mAsk 0 h dT dF (fun h=>mRet 11 h) fun h=>mLen 3 Aa0 x0.Rows<|mAsk 0 h dT dF (fun h=>mRet 6 h) fun h=>Aaw 7 h (fun _ h=>h) (fun _ h=>mFin 10 h) fun _ h=>mRet 6 h) fun _ h=>mRet 6 h
end q59_
namespace q76_
noncomputable def B:Code:=(Tryz.f51.body).getD .skip
def W:List Nat:=[0,2,3,5]
def res(r:List Int):D×List D:=(.own (r.map (eI .i64)),[])
def C(x0:Int)(r:List Int):Prop:=Ret env 51 [.lit (.int .u32 x0)] (res r).1 (res r).2
def L1(x0:Int)(z0:List Int)(φ:List Int->Prop):Prop:=Pt env 51 W B [1,1,0,0] [(0,.lit (.int .u32 x0)),(3,.own (z0.map (eI .i64)))] (Lv env 51 Tryz.f51 1 res φ)
theorem L1_step(x0:Int)(z0:List Int)(φ:List Int->Prop)(h:(if x0=0 then φ z0 else(0<=x0/\x0<4294967296)/\(z0.length+1)*8<=140737488355328/\L1 (bAnd .u32 x0 (IntKind.wrap .u32 (x0-1))) (z0++[(tz32 x0)]) φ)):L1 x0 z0 φ:=mIn<|Abs 3 h Aby Abx (fun h=>h.elim fun h1 h=>Aws 6 (show Ret env 95 [.lit (.int .u32 x0)] (.lit (.int .i64 (tz32 x0))) []from Bel (by kernel_rfl) h1)<|mApp 1 (eI .i64) z0 ([(tz32 x0)]) h fun h=>mFin 9 h) fun h=>mRet 7 h
theorem enter(x0:Int)(φ:List Int->Prop)(h:L1 x0 ([]) φ):∃r,φ r/\C x0 r:=mEnt (fd:=Tryz.f51) (body:=B) (V:=W) (res:=res)<|mFin 6 h
end q76_
namespace q77_
noncomputable def B:Code:=(Tryz.f30.body).getD .skip
def W:List Nat:=[0,2,3,4,11]
def res(r:Int):D×List D:=(.lit (.int .u32 r),[])
def C(x0 r:Int):Prop:=Ret env 30 [.lit (.int .i64 x0)] (res r).1 (res r).2
def L1(x0 z0 z1:Int)(φ:Int->Prop):Prop:=Pt env 30 W B [1,1,0,1,0] [(0,.lit (.int .i64 x0)),(3,.lit (.int .u32 z0)),(4,.lit (.int .i64 z1))] (Lv env 30 Tryz.f30 1 res φ)
theorem L1_step(x0 z0 z1:Int)(φ:Int->Prop)(h:(if z1<x0 then(if z1<32 then 0<=z1/\L1 x0 (bOr .u32 z0 (shlw .u32 1 z1)) (IntKind.wrap .i64 (z1+1)) φ else φ z0)else φ z0)):L1 x0 z0 z1 φ:=mIn<|mAsk 4 h dT dF (fun h=>mAsk 2 h dT dF (fun h=>h.elim fun h1 h=>mBi 7 (Alo (t:=34) (q:=.u32) (q':=.i64) (i1:=1) h1)<|mFin 8 h) fun h=>mRet 8 h) fun h=>mRet 11 h
theorem enter(x0:Int)(φ:Int->Prop)(h:L1 x0 0 0 φ):∃r,φ r/\C x0 r:=mEnt (fd:=Tryz.f30) (body:=B) (V:=W) (res:=res)<|mFin 9 h
end q77_
namespace q91_
noncomputable def B:Code:=(Tryz.f68.body).getD .skip
def W:List Nat:=[0,1,4]
def res(r:Bool):D×List D:=(.lit (.bool r),[])
def C(x0 x1:Int)(r:Bool):Prop:=Ret env 68 [.lit (.int .u32 x0),.lit (.int .i64 x1)] (res r).1 (res r).2
theorem enter(x0 x1:Int)(φ:Bool->Prop)(h:(if 0<=x1 then(if x1<32 then 0<=x1/\φ ((bAnd .u32 (shrw .u32 x0 x1) 1)==1)else φ false)else φ false)):∃r,φ r/\C x0 x1 r:=mEnt (fd:=Tryz.f68) (body:=B) (V:=W) (res:=res)<|mAsk 5 h dT dF (fun h=>mAsk 2 h dT dF (fun h=>h.elim fun h1 h=>mBi 4 (Ajn (t:=34) (q:=.u32) (q':=.i64) (i1:=x0) h1)<|mRet 5 h) fun h=>mRet 10 h) fun h=>mRet 13 h
end q91_
namespace q78_
noncomputable def B:Code:=(Tryz.f132.body).getD .skip
def W:List Nat:=[0,1,4,7,10]
def res(r:Int):D×List D:=(.lit (.int .i64 r),[])
def C(x0 x1 r:Int):Prop:=Ret env 132 [.lit (.int .i64 x0),.lit (.int .i64 x1)] (res r).1 (res r).2
theorem enter(x0 x1:Int)(φ:Int->Prop)(h:(if x0<x1 then φ (-1)else(if x1<x0 then φ 1 else φ 0))):∃r,φ r/\C x0 x1 r:=mEnt (fd:=Tryz.f132) (body:=B) (V:=W) (res:=res)<|mAsk 6 h dT dF (fun h=>mRet 5 h) fun h=>mAsk 6 h dT dF (fun h=>mRet 5 h) fun h=>mRet 6 h
end q78_
namespace q42_
noncomputable def B:Code:=(Tryz.f147.body).getD .skip
def W:List Nat:=[0,1,4,5,15,24]
def res(r:Int):D×List D:=(.lit (.int .i64 r),[])
def C(x0 x1:ByteArray)(r:Int):Prop:=Ret env 147 [.lit (.string x0),.lit (.string x1)] (res r).1 (res r).2
def L1(x0 x1:ByteArray)(z0:Int)(φ:Int->Prop):Prop:=Pt env 147 W B [1,0,1,0] [(0,.lit (.string x0)),(1,.lit (.string x1)),(5,.lit (.int .i64 z0))] (Lv env 147 Tryz.f147 2 res φ)
def L2(x0 x1:ByteArray)(φ:Int->Prop):Prop:=Pt env 147 W B [1,1,0] [(0,.lit (.string x0)),(1,.lit (.string x1))] (Lv env 147 Tryz.f147 2 res φ)
theorem L1_step(x0 x1:ByteArray)(z0:Int)(φ:Int->Prop)(h:(if z0<(Adf x0)then(if z0<(Adf x1)then ∃b1,((0:Int)<=z0/\x0[z0.toNat]?=some b1)/\∃b4,((0:Int)<=z0/\x1[z0.toNat]?=some b4)/\(if(u8i b1)=(u8i b4)then L1 x0 x1 (IntKind.wrap .i64 (z0+1)) φ else ∃b7,((0:Int)<=z0/\x0[z0.toNat]?=some b7)/\∃b10,((0:Int)<=z0/\x1[z0.toNat]?=some b10)/\∃r13:Int,q78_.C (IntKind.wrap .i64 (u8i b7)) (IntKind.wrap .i64 (u8i b10)) r13/\φ r13)else L2 x0 x1 φ)else L2 x0 x1 φ)):L1 x0 x1 z0 φ:=mIn<|mAsk 5 h dT dF (fun h=>mAsk 4 h dT dF (fun h=>mSt 7 h fun b1 h=>mSt 2 h fun b4 h=>Abs 0 h Aby Abx (fun h=>mSt 5 h fun b7 h=>mSt 3 h fun b10 h=>mCal 1 h (fun _ h=>h) fun r13 _ h=>mRet 2 h) fun h=>mFin 8 h) fun h=>mFin 4 h) fun h=>mFin 9 h
theorem L2_step(x0 x1:ByteArray)(φ:Int->Prop)(h:∃r14:Int,q78_.C (Adf x0) (Adf x1) r14/\φ r14):L2 x0 x1 φ:=mIn<|mCal 5 h (fun _ h=>h) fun r14 _ h=>mRet 2 h
theorem enter(x0 x1:ByteArray)(φ:Int->Prop)(h:L1 x0 x1 0 φ):∃r,φ r/\C x0 x1 r:=mEnt (fd:=Tryz.f147) (body:=B) (V:=W) (res:=res)<|mFin 6 h
end q42_
namespace q43_
noncomputable def B:Code:=(Tryz.f131.body).getD .skip
def W:List Nat:=[0,1,2,3,4,5,6,13,21]
def res(r:Int):D×List D:=(.lit (.int .i64 r),[])
def C(x0 x1:api_Value)(r:Int):Prop:=Ret env 131 [.agg [.lit (.int .i64 x0.Kind),.lit (.int .i64 x0.Num),.lit (.string x0.Str)],.agg [.lit (.int .i64 x1.Kind),.lit (.int .i64 x1.Num),.lit (.string x1.Str)]] (res r).1 (res r).2
theorem enter(x0 x1:api_Value)(φ:Int->Prop)(h:∃r1:Int,q78_.C x0.Kind x1.Kind r1/\(if r1=0 then ∃r2:Int,q78_.C x0.Num x1.Num r2/\(if r2=0 then ∃r3:Int,q42_.C x0.Str x1.Str r3/\φ r3 else φ r2)else φ r1)):∃r,φ r/\C x0 x1 r:=mEnt (fd:=Tryz.f131) (body:=B) (V:=W) (res:=res)<|mCal 10 h (fun _ h=>h) fun r1 _ h=>Abs 4 h Aby Abx (fun h=>mRet 6 h) fun h=>mCal 8 h (fun _ h=>h) fun r2 _ h=>Abs 4 h Aby Abx (fun h=>mRet 6 h) fun h=>mCal 8 h (fun _ h=>h) fun r3 _ h=>mRet 2 h
end q43_
namespace q60_
noncomputable def B:Code:=(Tryz.f105.body).getD .skip
def W:List Nat:=[0,1,4,5,6,16,29]
def res(r:Int):D×List D:=(.lit (.int .i64 r),[])
def C(x0 x1:List api_Value)(r:Int):Prop:=Ret env 105 [.sl (x0.map Aa2),.sl (x1.map Aa2)] (res r).1 (res r).2
def L1(x0 x1:List api_Value)(z0:Int)(φ:Int->Prop):Prop:=Pt env 105 W B [1,0,1,0] [(0,.sl (x0.map Aa2)),(1,.sl (x1.map Aa2)),(5,.lit (.int .i64 z0))] (Lv env 105 Tryz.f105 2 res φ)
def L2(x0 x1:List api_Value)(φ:Int->Prop):Prop:=Pt env 105 W B [1,1,0] [(0,.sl (x0.map Aa2)),(1,.sl (x1.map Aa2))] (Lv env 105 Tryz.f105 2 res φ)
theorem L1_step(x0 x1:List api_Value)(z0:Int)(φ:Int->Prop)(h:(if z0<(x0.length:Int)then(if z0<(x1.length:Int)then ∃a1,lget x0 z0=some a1/\∃a3,lget x1 z0=some a3/\∃r5:Int,q43_.C a1 a3 r5/\(if r5=0 then L1 x0 x1 (IntKind.wrap .i64 (z0+1)) φ else φ r5)else L2 x0 x1 φ)else L2 x0 x1 φ)):L1 x0 x1 z0 φ:=mIn<|mLen 4 Aa2 x0<|mAsk 0 h dT dF (fun h=>mLen 3 Aa2 x1<|mAsk 0 h dT dF (fun h=>mIx 7 Aa2 h fun a1 h2 h=>mIx 3 Aa2 h fun a3 h4 h=>mCal 1 h (fun _ h=>h) fun r5 _ h=>Abs 4 h Aby Abx (fun h=>mRet 6 h) fun h=>mFin 8 h) fun h=>mFin 4 h) fun h=>mFin 9 h
theorem L2_step(x0 x1:List api_Value)(φ:Int->Prop)(h:∃r6:Int,q78_.C (x0.length:Int) (x1.length:Int) r6/\φ r6):L2 x0 x1 φ:=mIn<|mLen 2 Aa2 x0<|mLen 1 Aa2 x1<|mCal 0 h (fun _ h=>h) fun r6 _ h=>mRet 2 h
theorem enter(x0 x1:List api_Value)(φ:Int->Prop)(h:L1 x0 x1 0 φ):∃r,φ r/\C x0 x1 r:=mEnt (fd:=Tryz.f105) (body:=B) (V:=W) (res:=res)<|mFin 6 h
end q60_
namespace q79_
noncomputable def B:Code:=(Tryz.f82.body).getD .skip
def W:List Nat:=[0,1,4]
def res(r:Bool):D×List D:=(.lit (.bool r),[])
def C(x0 x1:List api_Value)(r:Bool):Prop:=Ret env 82 [.sl (x0.map Aa2),.sl (x1.map Aa2)] (res r).1 (res r).2
theorem enter(x0 x1:List api_Value)(φ:Bool->Prop)(h:∃r1:Int,q60_.C x0 x1 r1/\φ (r1==0)):∃r,φ r/\C x0 x1 r:=mEnt (fd:=Tryz.f82) (body:=B) (V:=W) (res:=res)<|mCal 6 h (fun _ h=>h) fun r1 _ h=>mRet 3 h
end q79_
namespace q105_
noncomputable def B:Code:=(Tryz.f137.body).getD .skip
def W:List Nat:=[0,1,4,5,6,11]
def res(r:List Int):D×List D:=(.own (r.map (eI .u8)),[])
def C(x1:Int)(k0_0 r:List Int):Prop:=Ret env 137 [.own (k0_0.map (eI .u8)),.lit (.int .i64 x1)] (res r).1 (res r).2
def L1(k0_0:List Int)(z0 z1:Int)(φ:List Int->Prop):Prop:=Pt env 137 W B [1,1,0,1,0] [(0,.own (k0_0.map (eI .u8))),(5,.lit (.int .u64 z0)),(6,.lit (.int .i64 z1))] (Lv env 137 Tryz.f137 2 res φ)
theorem L1_step(k0_0:List Int)(z0 z1:Int)(φ:List Int->Prop)(h:(if 0<=z1 then 0<=z1/\(k0_0.length+1)*1<=140737488355328/\L1 (k0_0++[(IntKind.wrap .u8 (shrw .u64 z0 z1))]) z0 (IntKind.wrap .i64 (z1-8)) φ else φ k0_0)):L1 k0_0 z0 z1 φ:=mIn<|mAsk 3 h dT dF (fun h=>h.elim fun h1 h=>mBi 7 (Ajn (t:=143) (q:=.u64) (q':=.i64) (i1:=z0) h1)<|mApp 2 (eI .u8) k0_0 ([(IntKind.wrap .u8 (shrw .u64 z0 z1))]) h fun h=>mFin 7 h) fun h=>mRet 7 h
theorem enter(x1:Int)(k0_0:List Int)(φ:List Int->Prop)(h:L1 k0_0 (bXor .u64 (IntKind.wrap .u64 x1) 9223372036854775808) 56 φ):∃r,φ r/\C x1 k0_0 r:=mEnt (fd:=Tryz.f137) (body:=B) (V:=W) (res:=res)<|mFin 12 h
end q105_
namespace q119_
noncomputable def B:Code:=(Tryz.f116.body).getD .skip
def W:List Nat:=[0,1,2,3,4,5,8,14,15,22,26,27,28,41]
def res(r:ByteArray×Int):D×List D:=(.tup [.lit (.string r.1),.lit (.int .i64 r.2)],[])
def C(x0:api_Value)(r:ByteArray×Int):Prop:=Ret env 116 [.agg [.lit (.int .i64 x0.Kind),.lit (.int .i64 x0.Num),.lit (.string x0.Str)]] (res r).1 (res r).2
def L2(x0:api_Value)(z0:Bool)(φ:ByteArray×Int->Prop):Prop:=Pt env 116 W B [1,1,1,0,1,0,1,0] [(0,.agg [.lit (.int .i64 x0.Kind),.lit (.int .i64 x0.Num),.lit (.string x0.Str)]),(1,.box [.lit (.int .i64 x0.Kind),.lit (.int .i64 x0.Num),.lit (.string x0.Str)]),(4,.own (([(IntKind.wrap .u8 x0.Kind)]).map (eI .u8))),(14,.lit (.int .i64 x0.Kind)),(15,.lit (.bool z0))] (Lv env 116 Tryz.f116 1 res φ)
def L3(x0:api_Value)(φ:ByteArray×Int->Prop):Prop:=Pt env 116 W B [1,1,1,0,1,0,1,1,0] [(0,.agg [.lit (.int .i64 x0.Kind),.lit (.int .i64 x0.Num),.lit (.string x0.Str)]),(1,.box [.lit (.int .i64 x0.Kind),.lit (.int .i64 x0.Num),.lit (.string x0.Str)]),(4,.own (([(IntKind.wrap .u8 x0.Kind)]).map (eI .u8))),(14,.lit (.int .i64 x0.Kind))] (Lv env 116 Tryz.f116 1 res φ)
def L1(x0:api_Value)(z0:List Int)(z1:Int)(φ:ByteArray×Int->Prop):Prop:=Pt env 116 W B [1,1,1,0,1,0,1,1,1,0,0,1,0] [(0,.agg [.lit (.int .i64 x0.Kind),.lit (.int .i64 x0.Num),.lit (.string x0.Str)]),(1,.box [.lit (.int .i64 x0.Kind),.lit (.int .i64 x0.Num),.lit (.string x0.Str)]),(4,.own (z0.map (eI .u8))),(26,.lit (.int .i64 (Adf x0.Str))),(27,.lit (.int .i64 z1))] (Lv env 116 Tryz.f116 1 res φ)
def L4(x0:api_Value)(z0:List Int)(z1:Int)(φ:ByteArray×Int->Prop):Prop:=Pt env 116 W B [1,1,1,0,1,0,1,1,1,0,0,1,0,0,1,1,1] [(0,.agg [.lit (.int .i64 x0.Kind),.lit (.int .i64 x0.Num),.lit (.string x0.Str)]),(1,.box [.lit (.int .i64 x0.Kind),.lit (.int .i64 x0.Num),.lit (.string x0.Str)]),(4,.own (z0.map (eI .u8))),(26,.lit (.int .i64 (Adf x0.Str))),(27,.lit (.int .i64 z1))] (Lv env 116 Tryz.f116 1 res φ)
theorem L2_step(x0:api_Value)(z0:Bool)(φ:ByteArray×Int->Prop)(h:∃r2:List Int,q105_.C x0.Num ([(IntKind.wrap .u8 x0.Kind)]) r2/\(∀x∈r2,0<=x/\x<256)/\φ ((Ako r2),0)):L2 x0 z0 φ:=mIn<|mCal 4 h (fun _ h=>h) (hf:=(fun _=>Aao (Aa8 (e:=(eI .u8)) (fun _=>rfl)) rfl)) fun r2 _ h=>h.elim fun h3 h=>mVl 4 (Ap3 (s:=157) (t:=9) (et:=5) (x:=(.tmp 49)) (d:=.alias 4 []) (l:=r2) (by kernel_rfl) (by kernel_rfl) (Ag0 (by kernel_rfl)) (by kernel_rfl) (by kernel_rfl) (by kernel_rfl) h3)<|mRet 3 h
theorem L3_step(x0:api_Value)(φ:ByteArray×Int->Prop)(h:(if x0.Kind=2 then L1 x0 ([(IntKind.wrap .u8 x0.Kind)]) 0 φ else(∀x∈([(IntKind.wrap .u8 x0.Kind)]),0<=x/\x<256)/\φ ((Ako [(IntKind.wrap .u8 x0.Kind)]),0))):L3 x0 φ:=mIn<|mCon 4 h Ab8 Ab7 (fun h=>mFin 6 h) fun h=>h.elim fun h4 h=>mVl 3 (Ap3 (s:=157) (t:=9) (et:=5) (x:=(.tmp 49)) (d:=.alias 4 []) (l:=[(IntKind.wrap .u8 x0.Kind)]) (by kernel_rfl) (by kernel_rfl) (Ag0 (by kernel_rfl)) (by kernel_rfl) (by kernel_rfl) (by kernel_rfl) h4)<|mRet 3 h
theorem L1_step(x0:api_Value)(z0:List Int)(z1:Int)(φ:ByteArray×Int->Prop)(h:(if z1<(Adf x0.Str)then ∃b5,((0:Int)<=z1/\x0.Str[z1.toNat]?=some b5)/\(z0.length+1)*1<=140737488355328/\∃b9,((0:Int)<=z1/\x0.Str[z1.toNat]?=some b9)/\(if(u8i b9)=0 then((z0++[(u8i b5)]).length+1)*1<=140737488355328/\L4 x0 ((z0++[(u8i b5)])++[255]) z1 φ else L4 x0 (z0++[(u8i b5)]) z1 φ)else(z0.length+2)*1<=140737488355328/\(∀x∈(z0++[0,1]),0<=x/\x<256)/\φ ((Ako (z0++[0,1])),0))):L1 x0 z0 z1 φ:=mIn<|mAsk 2 h dT dF (fun h=>mSt 12 h fun b5 h=>mApp 1 (eI .u8) z0 ([(u8i b5)]) h fun h=>mSt 6 h fun b9 h=>mAsk 0 h Ab8 Ab7 (fun h=>mApp 5 (eI .u8) (z0++[(u8i b5)]) ([255]) h fun h=>mFin 2 h) fun h=>mFin 3 h) fun h=>mApp 6 (eI .u8) z0 ([0,1]) h fun h=>h.elim fun h14 h=>mVl 4 (Ap3 (s:=157) (t:=9) (et:=5) (x:=(.tmp 49)) (d:=.alias 4 []) (l:=(z0++[0,1])) (by kernel_rfl) (by kernel_rfl) (Ag0 (by kernel_rfl)) (by kernel_rfl) (by kernel_rfl) (by kernel_rfl) h14)<|mRet 3 h
theorem L4_step(x0:api_Value)(z0:List Int)(z1:Int)(φ:ByteArray×Int->Prop)(h:L1 x0 z0 (IntKind.wrap .i64 (z1+1)) φ):L4 x0 z0 z1 φ:=mIn<|mFin 4 h
theorem enter(x0:api_Value)(φ:ByteArray×Int->Prop)(h:∃r1:Bool,q112_.C x0 r1/\(if r1=true then(if x0.Kind=1 then(if x0.Kind=1 then L2 x0 (x0.Kind==1) φ else L3 x0 φ)else(if x0.Kind=3 then L2 x0 (x0.Kind==3) φ else L3 x0 φ))else φ ((⟨#[]⟩:ByteArray),1))):∃r,φ r/\C x0 r:=mEnt (fd:=Tryz.f116) (body:=B) (V:=W) (res:=res)<|Aaw 7 h (fun _ h=>h) (fun _ h=>mCon 19 h Ab8 Ab7 (fun h=>mCon 1 h Ab8 Ab7 (fun h=>mFin 0 h) fun h=>mFin 0 h) fun h=>mCon 4 h Ab8 Ab7 (fun h=>mFin 0 h) fun h=>mFin 0 h) fun _ h=>mRet 7 h
end q119_
namespace q49_
noncomputable def B:Code:=(Tryz.f83.body).getD .skip
def W:List Nat:=[0,1,2,4,5,6,11,16]
def res(r:List api_Value):D×List D:=(.own (r.map Aa2),[])
def C(x0:api_Row)(x1:Int)(r:List api_Value):Prop:=Ret env 83 [.agg [.lit (.int .i64 x0.ID),.sl (x0.Values.map Aa2)],.lit (.int .u32 x1)] (res r).1 (res r).2
def L1(x0:api_Row)(x1:Int)(z0:List api_Value)(z1:Int)(φ:List api_Value->Prop):Prop:=Pt env 83 W B [1,1,0,1,0] [(0,.agg [.lit (.int .i64 x0.ID),.sl (x0.Values.map Aa2)]),(1,.lit (.int .u32 x1)),(2,.box [.lit (.int .i64 x0.ID),.sl (x0.Values.map Aa2)]),(5,.own (z0.map Aa2)),(6,.lit (.int .i64 z1))] (Lv env 83 Tryz.f83 2 res φ)
def L2(x0:api_Row)(x1:Int)(z0:List api_Value)(z1:Int)(φ:List api_Value->Prop):Prop:=Pt env 83 W B [1,1,0,1,0,0,1,1] [(0,.agg [.lit (.int .i64 x0.ID),.sl (x0.Values.map Aa2)]),(1,.lit (.int .u32 x1)),(2,.box [.lit (.int .i64 x0.ID),.sl (x0.Values.map Aa2)]),(5,.own (z0.map Aa2)),(6,.lit (.int .i64 z1))] (Lv env 83 Tryz.f83 2 res φ)
theorem L1_step(x0:api_Row)(x1:Int)(z0:List api_Value)(z1:Int)(φ:List api_Value->Prop)(h:(if z1<(x0.Values.length:Int)then ∃r1:Bool,q91_.C x1 z1 r1/\(if r1=true then ∃a2,lget x0.Values z1=some a2/\(z0.length+1)*32<=140737488355328/\L2 x0 x1 (z0++[a2]) z1 φ else L2 x0 x1 z0 z1 φ)else φ z0)):L1 x0 x1 z0 z1 φ:=mIn<|mLen 5 Aa2 x0.Values<|mAsk 0 h dT dF (fun h=>Aaw 6 h (fun _ h=>h) (fun _ h=>mIx 7 Aa2 h fun a2 h3 h=>mApp 2 Aa2 z0 ([a2]) h fun h=>mFin 2 h) fun _ h=>mFin 3 h) fun h=>mRet 7 h
theorem L2_step(x0:api_Row)(x1:Int)(z0:List api_Value)(z1:Int)(φ:List api_Value->Prop)(h:L1 x0 x1 z0 (IntKind.wrap .i64 (z1+1)) φ):L2 x0 x1 z0 z1 φ:=mIn<|mFin 5 h
theorem enter(x0:api_Row)(x1:Int)(φ:List api_Value->Prop)(h:L1 x0 x1 ([]) 0 φ):∃r,φ r/\C x0 x1 r:=mEnt (fd:=Tryz.f83) (body:=B) (V:=W) (res:=res)<|mFin 10 h
end q49_
namespace q61_
noncomputable def B:Code:=(Tryz.f41.body).getD .skip
def W:List Nat:=[0,1,2,3,4,6]
def res(r:Bool):D×List D:=(.lit (.bool r),[])
def C(x0 x1:api_Row)(x2:Int)(r:Bool):Prop:=Ret env 41 [.agg [.lit (.int .i64 x0.ID),.sl (x0.Values.map Aa2)],.agg [.lit (.int .i64 x1.ID),.sl (x1.Values.map Aa2)],.lit (.int .u32 x2)] (res r).1 (res r).2
theorem enter(x0 x1:api_Row)(x2:Int)(φ:Bool->Prop)(h:∃r1:List api_Value,q49_.C x0 x2 r1/\∃r2:List api_Value,q49_.C x1 x2 r2/\∃r3:Bool,q79_.C r1 r2 r3/\φ r3):∃r,φ r/\C x0 x1 x2 r:=mEnt (fd:=Tryz.f41) (body:=B) (V:=W) (res:=res)<|mLo 8 h (fun _ h=>h) (hf:=(fun _=>Aia (Aa8 (e:=Aa2) (fun _=>rfl)))) fun r1 _ h=>mCal 2 h (fun _ h=>h) (hf:=(fun _=>Aao (Aa8 (e:=Aa2) (fun _=>rfl)) rfl)) fun r2 _ h=>mCal 0 h (fun _ h=>h) (hr:=by exact(Ab5 (Aav (s:=9) (ps:=[]) (l:=r1) (e:=Aa2) (e':=Aa2) (fun _=>rfl) (by kernel_rfl)) (Ab5 (Aav (s:=12) (ps:=[]) (l:=r2) (e:=Aa2) (e':=Aa2) (fun _=>rfl) (by kernel_rfl)) Ac7))) fun r3 _ h=>mRet 2 h
end q61_
namespace q92_
noncomputable def B:Code:=(Tryz.f12.body).getD .skip
def W:List Nat:=[0,1,4]
def res(r:Bool):D×List D:=(.lit (.bool r),[])
def C(x0 x1:Int)(r:Bool):Prop:=Ret env 12 [.lit (.int .u32 x0),.lit (.int .u32 x1)] (res r).1 (res r).2
theorem enter(x0 x1:Int)(φ:Bool->Prop)(h:φ ((bAnd .u32 x0 x1)==x0)):∃r,φ r/\C x0 x1 r:=mEnt (fd:=Tryz.f12) (body:=B) (V:=W) (res:=res)<|mRet 11 h
end q92_
namespace q96_
noncomputable def B:Code:=(Tryz.f60.body).getD .skip
def W:List Nat:=[0,1,4,6,12,15,16,17,18,19,29]
def res(r:Int):D×List D:=(.lit (.int .i64 r),[])
def C(x0:Int)(x1:List api_FD)(r:Int):Prop:=Ret env 60 [.lit (.int .i64 x0),.sl (x1.map Aa6)] (res r).1 (res r).2
def L1(x0:Int)(x1:List api_FD)(z0:Int)(φ:Int->Prop):Prop:=Pt env 60 W B [1,1,1,0,1,0] [(0,.lit (.int .i64 x0)),(1,.sl (x1.map Aa6)),(16,.sl (x1.map Aa6)),(17,.lit (.int .i64 (x1.length:Int))),(18,.lit (.int .i64 z0))] (Lv env 60 Tryz.f60 2 res φ)
theorem L1_step(x0:Int)(x1:List api_FD)(z0:Int)(φ:Int->Prop)(h:(if z0<(x1.length:Int)then ∃a1,lget x1 z0=some a1/\0<=x0/\(if(shrw .u32 (bOr .u32 a1.Lhs a1.Rhs) x0)=0 then L1 x0 x1 (IntKind.wrap .i64 (z0+1)) φ else φ 1)else φ 0)):L1 x0 x1 z0 φ:=mIn<|mAsk 2 h dT dF (fun h=>mIx 4 Aa6 h fun a1 h2 h=>h.elim fun h3 h=>mBi 11 (Ajn (t:=34) (q:=.u32) (q':=.i64) (i1:=(bOr .u32 a1.Lhs a1.Rhs)) h3)<|Abs 0 h Aby Abx (fun h=>mRet 5 h) fun h=>mFin 7 h) fun h=>mRet 6 h
theorem enter(x0:Int)(x1:List api_FD)(φ:Int->Prop)(h:(if x0<0 then φ 7 else(if 16<x0 then φ 7 else(if 64<(x1.length:Int)then φ 3 else L1 x0 x1 0 φ)))):∃r,φ r/\C x0 x1 r:=mEnt (fd:=Tryz.f60) (body:=B) (V:=W) (res:=res)<|mAsk 5 h dT dF (fun h=>mRet 9 h) fun h=>mAsk 2 h dT dF (fun h=>mRet 6 h) fun h=>mLen 6 Aa6 x1<|mAsk 0 h dT dF (fun h=>mRet 5 h) fun h=>mLen 5 Aa6 x1<|mFin 2 h
end q96_
namespace q62_
noncomputable def B:Code:=(Tryz.f64.body).getD .skip
def W:List Nat:=[0,1,4,5,6,12,15,21,41]
def res(r:Int):D×List D:=(.lit (.int .i64 r),[])
def C(x0:Int)(x1:List api_FD)(r:Int):Prop:=Ret env 64 [.lit (.int .i64 x0),.sl (x1.map Aa6)] (res r).1 (res r).2
def L1(x1:List api_FD)(r1 z0:Int)(φ:Int->Prop):Prop:=Pt env 64 W B [1,1,1,1,0,1,0] [(1,.sl (x1.map Aa6)),(5,.lit (.int .u32 r1)),(6,.lit (.int .i64 z0))] (Lv env 64 Tryz.f64 2 res φ)
theorem L1_step(x1:List api_FD)(r1 z0:Int)(φ:Int->Prop)(h:(if z0<(x1.length:Int)then ∃a2,lget x1 z0=some a2/\∃r4:Bool,q92_.C a2.Lhs r1 r4/\(if r4=true then ∃r5:Bool,q92_.C a2.Rhs r1 r5/\(if r5=true then L1 x1 r1 (IntKind.wrap .i64 (z0+1)) φ else φ 1)else φ 1)else φ 0)):L1 x1 r1 z0 φ:=mIn<|mLen 4 Aa6 x1<|mAsk 0 h dT dF (fun h=>mIx 6 Aa6 h fun a2 h3 h=>Aaw 3 h (fun _ h=>h) (fun _ h=>mIxf 4 Aa6 h3<|Aaw 3 h (fun _ h=>h) (fun _ h=>mFin 10 h) fun _ h=>mRet 7 h) fun _ h=>mRet 16 h) fun h=>mRet 6 h
theorem enter(x0:Int)(x1:List api_FD)(φ:Int->Prop)(h:(if x0<0 then φ 7 else(if 16<x0 then φ 7 else(if 64<(x1.length:Int)then φ 3 else ∃r1:Int,q77_.C x0 r1/\L1 x1 r1 0 φ)))):∃r,φ r/\C x0 x1 r:=mEnt (fd:=Tryz.f64) (body:=B) (V:=W) (res:=res)<|mAsk 5 h dT dF (fun h=>mRet 9 h) fun h=>mAsk 2 h dT dF (fun h=>mRet 6 h) fun h=>mLen 6 Aa6 x1<|mAsk 0 h dT dF (fun h=>mRet 5 h) fun h=>mCal 5 h (fun _ h=>h) fun r1 _ h=>mFin 5 h
end q62_
namespace q114_
noncomputable def B:Code:=(Tryz.f43.body).getD .skip
def W:List Nat:=[0,1,2,6,7,9,14,18,19,20,21,22,32]
def res(r:Int):D×List D:=(.lit (.int .i64 r),[])
def C(x0:Int)(x1:List api_FD)(x2:List api_MVD)(r:Int):Prop:=Ret env 43 [.lit (.int .i64 x0),.sl (x1.map Aa6),.sl (x2.map Aa5)] (res r).1 (res r).2
def L1(x0:Int)(x2:List api_MVD)(z0:Int)(φ:Int->Prop):Prop:=Pt env 43 W B [1,1,1,0,1,0] [(0,.lit (.int .i64 x0)),(2,.sl (x2.map Aa5)),(19,.sl (x2.map Aa5)),(20,.lit (.int .i64 (x2.length:Int))),(21,.lit (.int .i64 z0))] (Lv env 43 Tryz.f43 3 res φ)
theorem L1_step(x0:Int)(x2:List api_MVD)(z0:Int)(φ:Int->Prop)(h:(if z0<(x2.length:Int)then ∃a2,lget x2 z0=some a2/\0<=x0/\(if(shrw .u32 (bOr .u32 a2.Lhs a2.Rhs) x0)=0 then L1 x0 x2 (IntKind.wrap .i64 (z0+1)) φ else φ 1)else φ 0)):L1 x0 x2 z0 φ:=mIn<|mAsk 2 h dT dF (fun h=>mIx 4 Aa5 h fun a2 h3 h=>h.elim fun h4 h=>mBi 11 (Ajn (t:=34) (q:=.u32) (q':=.i64) (i1:=(bOr .u32 a2.Lhs a2.Rhs)) h4)<|Abs 0 h Aby Abx (fun h=>mRet 5 h) fun h=>mFin 7 h) fun h=>mRet 6 h
theorem enter(x0:Int)(x1:List api_FD)(x2:List api_MVD)(φ:Int->Prop)(h:∃r1:Int,q96_.C x0 x1 r1/\(if r1=0 then(if 64<(x2.length:Int)then φ 3 else L1 x0 x2 0 φ)else φ r1)):∃r,φ r/\C x0 x1 x2 r:=mEnt (fd:=Tryz.f43) (body:=B) (V:=W) (res:=res)<|mCal 6 h (fun _ h=>h) fun r1 _ h=>Abs 4 h Aby Abx (fun h=>mRet 6 h) fun h=>mLen 5 Aa5 x2<|mAsk 0 h dT dF (fun h=>mRet 5 h) fun h=>mLen 5 Aa5 x2<|mFin 2 h
end q114_
namespace q50_
noncomputable def B:Code:=(Tryz.f80.body).getD .skip
def W:List Nat:=[0,1,4]
def res(r:Bool):D×List D:=(.lit (.bool r),[])
def C(x0 x1:Int)(r:Bool):Prop:=Ret env 80 [.lit (.int .i64 x0),.lit (.int .u32 x1)] (res r).1 (res r).2
theorem enter(x0 x1:Int)(φ:Bool->Prop)(h:∃r1:Int,q77_.C x0 r1/\∃r2:Bool,q92_.C x1 r1 r2/\φ r2):∃r,φ r/\C x0 x1 r:=mEnt (fd:=Tryz.f80) (body:=B) (V:=W) (res:=res)<|mCal 6 h (fun _ h=>h) fun r1 _ h=>mCal 0 h (fun _ h=>h) fun r2 _ h=>mRet 2 h
end q50_
namespace q63_
noncomputable def B:Code:=(Tryz.f46.body).getD .skip
def W:List Nat:=[0,1,2,6,7,8,13,17,21,41]
def res(r:Int):D×List D:=(.lit (.int .i64 r),[])
def C(x0:Int)(x1:List api_FD)(x2:List api_MVD)(r:Int):Prop:=Ret env 46 [.lit (.int .i64 x0),.sl (x1.map Aa6),.sl (x2.map Aa5)] (res r).1 (res r).2
def L1(x0:Int)(x2:List api_MVD)(z0:Int)(φ:Int->Prop):Prop:=Pt env 46 W B [1,1,1,0,1,0] [(0,.lit (.int .i64 x0)),(2,.sl (x2.map Aa5)),(8,.lit (.int .i64 z0))] (Lv env 46 Tryz.f46 3 res φ)
theorem L1_step(x0:Int)(x2:List api_MVD)(z0:Int)(φ:Int->Prop)(h:(if z0<(x2.length:Int)then ∃a2,lget x2 z0=some a2/\∃r4:Bool,q50_.C x0 a2.Lhs r4/\(if r4=true then ∃r5:Bool,q50_.C x0 a2.Rhs r5/\(if r5=true then L1 x0 x2 (IntKind.wrap .i64 (z0+1)) φ else φ 1)else φ 1)else φ 0)):L1 x0 x2 z0 φ:=mIn<|mLen 4 Aa5 x2<|mAsk 0 h dT dF (fun h=>mIx 7 Aa5 h fun a2 h3 h=>Aaw 2 h (fun _ h=>h) (fun _ h=>mIxf 5 Aa5 h3<|Aaw 2 h (fun _ h=>h) (fun _ h=>mFin 10 h) fun _ h=>mRet 7 h) fun _ h=>mRet 16 h) fun h=>mRet 6 h
theorem enter(x0:Int)(x1:List api_FD)(x2:List api_MVD)(φ:Int->Prop)(h:∃r1:Int,q62_.C x0 x1 r1/\(if r1=0 then(if 64<(x2.length:Int)then φ 3 else L1 x0 x2 0 φ)else φ r1)):∃r,φ r/\C x0 x1 x2 r:=mEnt (fd:=Tryz.f46) (body:=B) (V:=W) (res:=res)<|mCal 6 h (fun _ h=>h) fun r1 _ h=>Abs 4 h Aby Abx (fun h=>mRet 6 h) fun h=>mLen 5 Aa5 x2<|mAsk 0 h dT dF (fun h=>mRet 5 h) fun h=>mFin 6 h
end q63_
namespace q80_
noncomputable def B:Code:=(Tryz.f134.body).getD .skip
def W:List Nat:=[0,1,2,3,4,6,7,9,17,22,23,24,25,37,41,42,43,44,61]
def res(r:Bool):D×List D:=(.lit (.bool r),[])
def C(x0:api_Partition)(r:Bool):Prop:=Ret env 134 [.agg [.lit (.int .i64 x0.Rows),.sl (x0.Classes.map (eSl (eI .i64)))]] (res r).1 (res r).2
def L1(x0:api_Partition)(z0:List Bool)(z1 z2:Int)(φ:Bool->Prop):Prop:=Pt env 134 W B [1,1,1,1,0,1,0] [(0,.agg [.lit (.int .i64 x0.Rows),.sl (x0.Classes.map (eSl (eI .i64)))]),(1,.box [.lit (.int .i64 x0.Rows),.sl (x0.Classes.map (eSl (eI .i64)))]),(3,.own (z0.map eB)),(4,.lit (.int .i64 z1)),(22,.sl (x0.Classes.map (eSl (eI .i64)))),(23,.lit (.int .i64 (x0.Classes.length:Int))),(24,.lit (.int .i64 z2))] (Lv env 134 Tryz.f134 1 res φ)
def L2(x0:api_Partition)(z0:List Bool)(a4:Int)(a2:List Int)(z1 z2 z3:Int)(φ:Bool->Prop):Prop:=Pt env 134 W B [1,1,1,1,0,1,0,0,1,1,0,0,1,1,1,1,1,0] [(0,.agg [.lit (.int .i64 x0.Rows),.sl (x0.Classes.map (eSl (eI .i64)))]),(1,.box [.lit (.int .i64 x0.Rows),.sl (x0.Classes.map (eSl (eI .i64)))]),(3,.own (z0.map eB)),(4,.lit (.int .i64 a4)),(6,.sl (a2.map (eI .i64))),(7,.lit (.int .i64 z1)),(22,.sl (x0.Classes.map (eSl (eI .i64)))),(23,.lit (.int .i64 (x0.Classes.length:Int))),(24,.lit (.int .i64 z2)),(41,.sl (a2.map (eI .i64))),(42,.lit (.int .i64 (a2.length:Int))),(43,.lit (.int .i64 z3))] (Lv env 134 Tryz.f134 1 res φ)
theorem L1_step(x0:api_Partition)(z0:List Bool)(z1 z2:Int)(φ:Bool->Prop)(h:(if z2<(x0.Classes.length:Int)then ∃a2,lget x0.Classes z2=some a2/\(if(a2.length:Int)<2 then φ false else ∃a4,lget a2 0=some a4/\(if a4<=z1 then φ false else L2 x0 z0 a4 a2 (-1) z2 0 φ))else φ true)):L1 x0 z0 z1 z2 φ:=mIn<|mAsk 2 h dT dF (fun h=>mIx 4 (eSl (eI .i64)) h fun a2 h3 h=>mLen 5 (eI .i64) a2<|mAsk 0 h dT dF (fun h=>mRet 12 h) fun h=>mIx 2 (eI .i64) h fun a4 h5 h=>mAsk 2 h dT dF (fun h=>mRet 6 h) fun h=>mIxf 6 (eI .i64) h5<|mLen 8 (eI .i64) a2<|mFin 2 h) fun h=>mRet 6 h
theorem L2_step(x0:api_Partition)(z0:List Bool)(a4:Int)(a2:List Int)(z1 z2 z3:Int)(φ:Bool->Prop)(h:(if z3<(a2.length:Int)then ∃a6,lget a2 z3=some a6/\(if a6<=z1 then φ false else(if x0.Rows<=a6 then φ false else ∃a8,lget z0 a6=some a8/\(if a8=true then φ false else L2 x0 (lset z0 a6 true) a4 a2 a6 z2 (IntKind.wrap .i64 (z3+1)) φ)))else L1 x0 z0 a4 (IntKind.wrap .i64 (z2+1)) φ)):L2 x0 z0 a4 a2 z1 z2 z3 φ:=mIn<|mAsk 2 h dT dF (fun h=>mIx 4 (eI .i64) h fun a6 h7 h=>mAsk 6 h dT dF (fun h=>mRet 17 h) fun h=>mAsk 4 h dT dF (fun h=>mRet 12 h) fun h=>mIy 4 eB h fun a8 h9 h=>mLdB 0 h9 h (fun h=>mRet 6 h) fun h=>mIyf 7 eB h9<|mSto 0 eB true h9<|mFin 9 h) fun h=>mFin 7 h
theorem enter(x0:api_Partition)(φ:Bool->Prop)(h:(if x0.Rows<0 then φ false else(if 1000<x0.Rows then φ false else(0<=x0.Rows/\x0.Rows*1<=281474976710656)/\L1 x0 (zD x0.Rows.toNat false) (-1) 0 φ))):∃r,φ r/\C x0 r:=mEnt (fd:=Tryz.f134) (body:=B) (V:=W) (res:=res)<|mAsk 7 h dT dF (fun h=>mRet 10 h) fun h=>mAsk 3 h dT dF (fun h=>mRet 6 h) fun h=>h.elim fun h1 h=>mVl 7 (Ar9 (t:=194) (x:=(.tmp 19)) (y:=(.tmp 19)) (q:=.i64) (i:=x0.Rows) (et:=4) (z:=.lit (.bool false)) (e:=eB) (a:=false) (k:=1) (by kernel_rfl) (by kernel_rfl) (by kernel_rfl) (by kernel_rfl) (by kernel_rfl) (by kernel_rfl) (by kernel_rfl) (by kernel_rfl) (by kernel_rfl) (by kernel_rfl) h1.1 h1.2)<|mLen 8 (eSl (eI .i64)) x0.Classes<|mFin 2 h
end q80_
end Go.Own
namespace Go.Own
def Ac6(rows:Int):Int->List Bool->List Int->Option (List Bool)
 |_,seen,[]=>some seen
 |before,seen,i::r=>if i<=before∨rows<=i∨lget seen i=some true then none else Ac6 rows i (lset seen i true) r
def Aca(rows:Int):Int->List Bool->List (List Int)->Bool
 |_,_,[]=>true
 |first,seen,c::cs=>match c with
  |[]=>false
  |[_]=>false
  |a::b::r=>if a<=first then false else match Ac6 rows (-1) seen (a::b::r)with
   |none=>false
   |some seen'=>Aca rows a seen' cs
def Acp(p:api_Partition):Bool:=if p.Rows<0 then false else if 1000<p.Rows then false else Aca p.Rows (-1) (zD p.Rows.toNat false) p.Classes
def Aii(p:api_Partition):Prop:=p.Classes.length<Big/\∀c∈p.Classes,c.length<Big
theorem Ali{rows:Int}:∀{r:List Int}{b:Int}{s s':List Bool},Ac6 rows b s r=some s'->s'.length=s.length
 |[],_,_,_,h=>by simp[Ac6]at h;rw[h]
 |i::r,b,s,s',h=>by
  simp only[Ac6]at h
  split at h
  .cases h
  .have:=Ali h;rw[this,Abw]
namespace q80_
theorem inner{x0:api_Partition}{a4 y24:Int}{a2:List Int}{φ:Bool->Prop}(hb:a2.length<Big):∀(r:List Int)(k:Nat)(seen:List Bool)(before:Int),a2.drop k=r->(seen.length:Int)=x0.Rows->-1<=before ->
  (match Ac6 x0.Rows before seen r with
   |none=>φ false
   |some s=>L1 x0 s a4 (IntKind.wrap .i64 (y24+1)) φ)->L2 x0 seen a4 a2 before y24 k φ
 |[],k,seen,before,hd,hs,hbf,h=>by
  apply L2_step;have:=Abe hd;rw[if_neg (by omega)];exact h
 |i::r,k,seen,before,hd,hs,hbf,h=>by
  apply L2_step;have hk:=Abf hd;rw[if_pos (by omega)];refine⟨i,Abb hd,?_⟩;simp only[Ac6]at h
  split
  .rename_i h1;rw[if_pos (.inl h1)]at h;exact h
  .rename_i h1
   split
   .rename_i h2;rw[if_pos (.inr (.inl h2))]at h;exact h
   .rename_i h2;obtain⟨b,hg⟩:=Ag3 (l:=seen) (i:=i) (by omega) (by omega);refine⟨b,hg,?_⟩
    split
    .rename_i h3;subst h3;rw[if_pos (.inr (.inr hg))]at h;exact h
    .rename_i h3;have:¬(i<=before∨x0.Rows<=i∨lget seen i=some true):=by
      rintro(h|h|h)
      .exact h1 h
      .exact h2 h
      .rw [hg]at h;exact h3 (zE h)
     rw[if_neg this]at h;rw[Aa4 (by unfold Big at hb;omega)];exact inner hb r (k+1) _ i (Aah hd) (by rw[Abw];exact hs) (by omega) h
theorem outer{x0:api_Partition}{φ:Bool->Prop}(hb:Aii x0):∀(cs:List (List Int))(k:Nat)(seen:List Bool)(first:Int),x0.Classes.drop k=cs->(seen.length:Int)=x0.Rows ->
  φ (Aca x0.Rows first seen cs)->L1 x0 seen first k φ
 |[],k,seen,first,hd,hs,h=>by
  apply L1_step;have:=Abe hd;rw[if_neg (by omega)];exact h
 |c::cs,k,seen,first,hd,hs,h=>by
  apply L1_step;have hk:=Abf hd;have hc:c∈x0.Classes:=zB (Ab0 hd);rw[if_pos (by omega)];refine⟨c,Abb hd,?_⟩
  match c,hc,h,hd with
  |[],_,h,hd=>simp only[List.length_nil];exact h
  |[_],_,h,hd=>simp only[zZ];exact h
  |a::b::r,hc,h,hd=>
   rw[if_neg (by simp;omega)];refine⟨a,by simp[lget],?_⟩;simp only[Aca]at h
   split
   .rename_i h1;rw[if_pos h1]at h;exact h
   .rename_i h1;rw[if_neg h1]at h;refine inner (hb.2 _ hc) (a::b::r) 0 seen (-1) rfl hs (by omega) ?_;cases ho:Ac6 x0.Rows (-1) seen (a::b::r)with
    |none=>rw[ho]at h;exact h
    |some s=>
     rw[ho]at h;simp only at h⊢;rw[Aa4 (by have:=hb.1;unfold Big at this;omega)];exact outer hb cs (k+1) s a (Aah hd) (by rw[Ali ho];exact hs) h
theorem spec{x0:api_Partition}(hb:Aii x0):C x0 (Acp x0):=by
 obtain⟨r,h1,h2⟩:=enter x0 (fun r=>r=Acp x0) (by
  unfold Acp
  split
  .rfl
  .split
   .rfl
   .refine ⟨by omega,?_⟩
    exact outer hb x0.Classes 0 _ (-1) rfl (by simp;omega) rfl)
 rw[<-h1];exact h2
end q80_
end Go.Own
namespace Go.Own
open Go.Proofs D
set_option maxRecDepth 100000
set_option maxHeartbeats 4000000
namespace q64_
noncomputable def B:Code:=(Tryz.f81.body).getD .skip
def W:List Nat:=[0,1,2,3,4,5,6,8,9,14,39]
def res(r:Bool):D×List D:=(.lit (.bool r),[])
def C(x0:api_Table)(x1 x2:api_Row)(x3:Int)(r:Bool):Prop:=Ret env 81 [.agg [.lit (.string x0.Name),.sl (x0.Attrs.map eS),.sl (x0.Rows.map Aa0)],.agg [.lit (.int .i64 x1.ID),.sl (x1.Values.map Aa2)],.agg [.lit (.int .i64 x2.ID),.sl (x2.Values.map Aa2)],.lit (.int .u32 x3)] (res r).1 (res r).2
def L1(x0:api_Table)(x1 x2:api_Row)(x3 z0:Int)(φ:Bool->Prop):Prop:=Pt env 81 W B [1,0,1,0] [(0,.agg [.lit (.string x0.Name),.sl (x0.Attrs.map eS),.sl (x0.Rows.map Aa0)]),(1,.agg [.lit (.int .i64 x1.ID),.sl (x1.Values.map Aa2)]),(2,.agg [.lit (.int .i64 x2.ID),.sl (x2.Values.map Aa2)]),(3,.lit (.int .u32 x3)),(4,.box [.lit (.string x0.Name),.sl (x0.Attrs.map eS),.sl (x0.Rows.map Aa0)]),(5,.box [.lit (.int .i64 x1.ID),.sl (x1.Values.map Aa2)]),(6,.box [.lit (.int .i64 x2.ID),.sl (x2.Values.map Aa2)]),(9,.lit (.int .i64 z0))] (Lv env 81 Tryz.f81 4 res φ)
def L2(x0:api_Table)(x1 x2:api_Row)(x3 z0:Int)(φ:Bool->Prop):Prop:=Pt env 81 W B [1,0,1,0,0,1,1] [(0,.agg [.lit (.string x0.Name),.sl (x0.Attrs.map eS),.sl (x0.Rows.map Aa0)]),(1,.agg [.lit (.int .i64 x1.ID),.sl (x1.Values.map Aa2)]),(2,.agg [.lit (.int .i64 x2.ID),.sl (x2.Values.map Aa2)]),(3,.lit (.int .u32 x3)),(4,.box [.lit (.string x0.Name),.sl (x0.Attrs.map eS),.sl (x0.Rows.map Aa0)]),(5,.box [.lit (.int .i64 x1.ID),.sl (x1.Values.map Aa2)]),(6,.box [.lit (.int .i64 x2.ID),.sl (x2.Values.map Aa2)]),(9,.lit (.int .i64 z0))] (Lv env 81 Tryz.f81 4 res φ)
theorem L1_step(x0:api_Table)(x1 x2:api_Row)(x3 z0:Int)(φ:Bool->Prop)(h:(if z0<(x0.Rows.length:Int)then ∃a1,lget x0.Rows z0=some a1/\∃r3:Bool,q61_.C a1 x1 x3 r3/\(if r3=true then ∃r4:Int,q77_.C (x0.Attrs.length:Int) r4/\∃r5:Bool,q61_.C a1 x2 (Alm .u32 r4 x3) r5/\(if r5=true then φ true else L2 x0 x1 x2 x3 z0 φ)else L2 x0 x1 x2 x3 z0 φ)else φ false)):L1 x0 x1 x2 x3 z0 φ:=mIn<|mLen 5 Aa0 x0.Rows<|mAsk 0 h dT dF (fun h=>mIx 7 Aa0 h fun a1 h2 h=>Aaw 3 h (fun _ h=>h) (fun _ h=>mIxf 4 Aa0 h2<|mLen 4 eS x0.Attrs<|mLo 0 h (fun _ h=>h) fun r4 _ h=>Aaw (A:=fun _=>φ true) 2 h (fun _ h=>h) (fun _ h=>mRet 6 h) fun _ h=>mFin 4 h) fun _ h=>mFin 18 h) fun h=>mRet 6 h
theorem L2_step(x0:api_Table)(x1 x2:api_Row)(x3 z0:Int)(φ:Bool->Prop)(h:L1 x0 x1 x2 x3 (IntKind.wrap .i64 (z0+1)) φ):L2 x0 x1 x2 x3 z0 φ:=mIn<|mFin 5 h
theorem enter(x0:api_Table)(x1 x2:api_Row)(x3:Int)(φ:Bool->Prop)(h:L1 x0 x1 x2 x3 0 φ):∃r,φ r/\C x0 x1 x2 x3 r:=mEnt (fd:=Tryz.f81) (body:=B) (V:=W) (res:=res)<|mFin 9 h
end q64_
namespace q65_
noncomputable def B:Code:=(Tryz.f40.body).getD .skip
def W:List Nat:=[0,1,2,3,4,5,6,7,8,9,10,14,26,36,43,74]
def res(r:Bool×Int):D×List D:=(.tup [.lit (.bool r.1),.lit (.int .i64 r.2)],[])
def C(x0:api_Table)(x1:api_MVD)(r:Bool×Int):Prop:=Ret env 40 [.agg [.lit (.string x0.Name),.sl (x0.Attrs.map eS),.sl (x0.Rows.map Aa0)],.agg [.lit (.int .u32 x1.Lhs),.lit (.int .u32 x1.Rhs)]] (res r).1 (res r).2
def L1(x0:api_Table)(x1:api_MVD)(z0:Int)(φ:Bool×Int->Prop):Prop:=Pt env 40 W B [1,1,1,1,1,0,1,0] [(0,.agg [.lit (.string x0.Name),.sl (x0.Attrs.map eS),.sl (x0.Rows.map Aa0)]),(1,.agg [.lit (.int .u32 x1.Lhs),.lit (.int .u32 x1.Rhs)]),(2,.box [.lit (.string x0.Name),.sl (x0.Attrs.map eS),.sl (x0.Rows.map Aa0)]),(3,.box [.lit (.int .u32 x1.Lhs),.lit (.int .u32 x1.Rhs)]),(8,.lit (.int .u32 (bOr .u32 x1.Lhs x1.Rhs))),(9,.lit (.int .i64 z0))] (Lv env 40 Tryz.f40 2 res φ)
def L2(x0:api_Table)(x1:api_MVD)(z0 z1:Int)(φ:Bool×Int->Prop):Prop:=Pt env 40 W B [1,1,1,1,1,0,1,0,0,1,0,0,1,0] [(0,.agg [.lit (.string x0.Name),.sl (x0.Attrs.map eS),.sl (x0.Rows.map Aa0)]),(1,.agg [.lit (.int .u32 x1.Lhs),.lit (.int .u32 x1.Rhs)]),(2,.box [.lit (.string x0.Name),.sl (x0.Attrs.map eS),.sl (x0.Rows.map Aa0)]),(3,.box [.lit (.int .u32 x1.Lhs),.lit (.int .u32 x1.Rhs)]),(8,.lit (.int .u32 (bOr .u32 x1.Lhs x1.Rhs))),(9,.lit (.int .i64 z0)),(10,.lit (.int .i64 z1))] (Lv env 40 Tryz.f40 2 res φ)
def L3(x0:api_Table)(x1:api_MVD)(z0 z1:Int)(φ:Bool×Int->Prop):Prop:=Pt env 40 W B [1,1,1,1,1,0,1,0,0,1,0,0,1,0,0,1,1] [(0,.agg [.lit (.string x0.Name),.sl (x0.Attrs.map eS),.sl (x0.Rows.map Aa0)]),(1,.agg [.lit (.int .u32 x1.Lhs),.lit (.int .u32 x1.Rhs)]),(2,.box [.lit (.string x0.Name),.sl (x0.Attrs.map eS),.sl (x0.Rows.map Aa0)]),(3,.box [.lit (.int .u32 x1.Lhs),.lit (.int .u32 x1.Rhs)]),(8,.lit (.int .u32 (bOr .u32 x1.Lhs x1.Rhs))),(9,.lit (.int .i64 z0)),(10,.lit (.int .i64 z1))] (Lv env 40 Tryz.f40 2 res φ)
theorem L1_step(x0:api_Table)(x1:api_MVD)(z0:Int)(φ:Bool×Int->Prop)(h:(if z0<(x0.Rows.length:Int)then L2 x0 x1 z0 0 φ else φ (true,0))):L1 x0 x1 z0 φ:=mIn<|mLen 5 Aa0 x0.Rows<|mAsk 0 h dT dF (fun h=>mFin 6 h) fun h=>mRet 7 h
theorem L2_step(x0:api_Table)(x1:api_MVD)(z0 z1:Int)(φ:Bool×Int->Prop)(h:(if z1<(x0.Rows.length:Int)then ∃a3,lget x0.Rows z0=some a3/\∃a5,lget x0.Rows z1=some a5/\∃r7:Bool,q61_.C a3 a5 x1.Lhs r7/\(if r7=true then ∃r8:Bool,q64_.C x0 a3 a5 (bOr .u32 x1.Lhs x1.Rhs) r8/\(if r8=true then L3 x0 x1 z0 z1 φ else φ (false,0))else L3 x0 x1 z0 z1 φ)else L1 x0 x1 (IntKind.wrap .i64 (z0+1)) φ)):L2 x0 x1 z0 z1 φ:=mIn<|mLen 5 Aa0 x0.Rows<|mAsk 0 h dT dF (fun h=>mIx 7 Aa0 h fun a3 h4 h=>mIx 4 Aa0 h fun a5 h6 h=>Aaw 3 h (fun _ h=>h) (fun _ h=>mIxf 5 Aa0 h4<|mIxf 4 Aa0 h6<|Aaw 2 h (fun _ h=>h) (fun _ h=>mFin 5 h) fun _ h=>mRet 8 h) fun _ h=>mFin 19 h) fun h=>mFin 8 h
theorem L3_step(x0:api_Table)(x1:api_MVD)(z0 z1:Int)(φ:Bool×Int->Prop)(h:L2 x0 x1 z0 (IntKind.wrap .i64 (z1+1)) φ):L3 x0 x1 z0 z1 φ:=mIn<|mFin 5 h
theorem enter(x0:api_Table)(x1:api_MVD)(φ:Bool×Int->Prop)(h:∃r1:Int,q59_.C x0 r1/\(if r1=0 then ∃r2:Bool,q50_.C (x0.Attrs.length:Int) (bOr .u32 x1.Lhs x1.Rhs) r2/\(if r2=true then L1 x0 x1 0 φ else φ (false,1))else φ (false,r1))):∃r,φ r/\C x0 x1 r:=mEnt (fd:=Tryz.f40) (body:=B) (V:=W) (res:=res)<|mCal 8 h (fun _ h=>h) fun r1 _ h=>Abs 4 h Aby Abx (fun h=>mRet 7 h) fun h=>mLen 6 eS x0.Attrs<|Aaw 9 h (fun _ h=>h) (fun _ h=>mFin 15 h) fun _ h=>mRet 7 h
end q65_
end Go.Own
namespace Go.Own
def free:List Bool->Nat
 |[]=>0
 |b::l=>(if b then 0 else 1)+free l
theorem Att(n:Nat):free (zD n false)=n:=by
 induction n with
 |zero=>rfl
 |succ n ih=>simp only[yC,free,ih];simp;omega
theorem Axw:∀{l:List Bool}{n:Nat},l[n]?=some false->free (l.set n true)+1=free l
 |[],n,h=>by simp at h
 |b::l,0,h=>by simp at h;subst h;simp[free];omega
 |b::l,n+1,h=>by
  simp only[zH]at h;have:=Axw h;simp only[List.set_cons_succ,free];omega
theorem Bdo{l:List Bool}{i:Int}(h:lget l i=some false):free (lset l i true)+1=free l:=Axw (Abm h).2
theorem Aqb{rows:Int}:∀{r:List Int}{i b:Int}{s s':List Bool},-1<=b->(s.length:Int)=rows->Ac6 rows b s (i::r)=some s'->b<i/\i<rows/\lget s i=some false/\Ac6 rows i (lset s i true) r=some s':=by
 intro r i b s s' hb hs h;simp only[Ac6]at h
 split at h
 .cases h
 .rename_i h1;simp only[not_or]at h1;obtain⟨x,hx⟩:=Ag3 (l:=s) (i:=i) (by omega) (by omega);refine⟨by omega,by omega,?_,h⟩;rw[hx]at h1⊢;cases x with
  |true=>exact absurd rfl h1.2.2
  |false=>rfl
theorem Aoj{rows:Int}:∀{r:List Int}{b:Int}{s s':List Bool},-1<=b->(s.length:Int)=rows->Ac6 rows b s r=some s'->free s'+r.length=free s
 |[],b,s,s',hb,hs,h=>by simp[Ac6]at h;simp[h]
 |i::r,b,s,s',hb,hs,h=>by
  obtain⟨h1,h2,h3,h4⟩:=Aqb hb hs h;have:=Aoj (by omega) (by rw[Abw];exact hs) h4;have h5:=Bdo h3;simp only[zF];omega
def Ahe:List (List Int)->Int
 |[]=>0
 |c::cs=>((c.length:Int)-1)+Ahe cs
theorem Ank{rows first:Int}{s:List Bool}{c:List Int}{cs:List (List Int)}(h:Aca rows first s (c::cs)=true):∃a b r s',c=a::b::r/\first<a/\Ac6 rows (-1) s c=some s'/\Aca rows a s' cs=true:=by
 match c,h with
 |[],h=>simp[Aca]at h
 |[_],h=>simp[Aca]at h
 |a::b::r,h=>
  simp only[Aca]at h
  split at h
  .cases h
  .rename_i h1;cases ho:Ac6 rows (-1) s (a::b::r)with
   |none=>rw[ho]at h;cases h
   |some s'=>rw[ho]at h;exact⟨a,b,r,s',rfl,by omega,rfl,h⟩
theorem Arr{rows:Int}:∀{cs:List (List Int)}{first:Int}{s:List Bool},(s.length:Int)=rows->Aca rows first s cs=true->0<=Ahe cs/\Ahe cs<=free s
 |[],_,_,_,_=>by simp[Ahe]
 |c::cs,first,s,hs,h=>by
  obtain⟨a,b,r,s',hc,h1,h2,h3⟩:=Ank h;have h4:=Aoj (by omega) hs h2;have h5:=Arr (by rw[Ali h2];exact hs) h3;subst hc;simp only[Ahe,zF]at h4⊢;omega
theorem Az6{p:api_Partition}(h:Acp p=true):0<=p.Rows/\p.Rows<=1000/\Aca p.Rows (-1) (zD p.Rows.toNat false) p.Classes=true:=by
 unfold Acp at h
 split at h
 .cases h
 .split at h
  .cases h
  .exact ⟨by omega,by omega,h⟩
def Afn(a:Int):List Int->List Int->List Int
 |l,[]=>l
 |l,i::r=>Afn a (lset l i a) r
theorem Aco{a:Int}:∀{l r:List Int},(Afn a l r).length=l.length
 |_,[]=>rfl
 |l,i::r=>by simp only[Afn];rw[Aco,Abw]
def Al0(s:List Bool)(r:List Int):List Bool:=r.foldl (fun s i=>lset s i true) s
theorem Aof:∀{r:List Int}{s:List Bool},(Al0 s r).length=s.length
 |[],_=>rfl
 |i::r,s=>by
  show(Al0 (lset s i true) r).length=_;rw[Aof,Abw]
theorem Aoe:∀{r:List Int}{s:List Bool}{j:Int},(∀i∈r,0<=i/\i<s.length)->0<=j->j<s.length->lget (Al0 s r) j=if j∈r then some true else lget s j
 |[],_,_,_,_,_=>by simp[Al0]
 |i::r,s,j,h,hj,hjs=>by
  show lget (Al0 (lset s i true) r) j=_;have hi:=h i (by simp);rw[Aoe (fun k hk=>by rw[Abw];exact h k (by simp[hk])) hj (by rw[Abw];exact hjs)];by_cases h1:j∈r
  .simp [h1]
  .rw [if_neg h1,Akx hi.1 hj];by_cases h2:i=j
   .subst h2;simp[hi.2]
   .rw [if_neg h2,if_neg];simp only[zC,not_or];exact⟨fun h=>h2 h.symm,h1⟩
theorem Aio{rows:Int}:∀{r:List Int}{b:Int}{s s':List Bool},-1<=b->(s.length:Int)=rows->(Ac6 rows b s r=some s'↔(b::r).Pairwise (·<·)/\(∀i∈r,i<rows/\lget s i=some false)/\s'=Al0 s r)
 |[],b,s,s',hb,hs=>by simp[Ac6,Al0,eq_comm]
 |i::r,b,s,s',hb,hs=>by
  constructor
  .intro h;obtain⟨h1,h2,h3,h4⟩:=Aqb hb hs h;obtain⟨k1,k2,k3⟩:=(Aio (by omega) (by rw[Abw];exact hs)).1 h4;have k4:=zA.1 k1;refine⟨zA.2 ⟨fun j hj=>?_,k1⟩,fun j hj=>?_,k3⟩
   .rcases zC.1 hj with rfl|hj
    .exact h1
    .have:=k4.1 j hj;omega
   .rcases zC.1 hj with rfl|hj
    .exact ⟨h2,h3⟩
    .have h5:=k4.1 j hj;have h6:=k2 j hj;rw[Akx (by omega) (by omega),if_neg (by omega)]at h6;exact h6
  .rintro ⟨h1,h2,h3⟩;have k1:=zA.1 h1;have k2:=zA.1 k1.2;have hbi:=k1.1 i (by simp);have hi:=h2 i (by simp);simp only[Ac6];rw[if_neg (by
    rintro(h|h|h)
    .omega
    .omega
    .rw [hi.2]at h;cases h)]
   refine(Aio (by omega) (by rw[Abw];exact hs)).2 ⟨k1.2,fun j hj=>?_,h3⟩;have h5:=k2.1 j hj;rw[Akx (by omega) (by omega),if_neg (by omega)];exact h2 j (by simp[hj])
structure CP(rows:Int)(cs:List (List Int)):Prop where
 two:∀c∈cs,2<=c.length
 inc:∀c∈cs,c.Pairwise (·<·)
 inn:∀c∈cs,∀i∈c,0<=i/\i<rows
 heads:cs.Pairwise fun c d=>c.headD 0<d.headD 0
 disj:cs.Pairwise fun c d=>∀i∈c,i ∉ d
theorem Ago{rows:Int}:∀{cs:List (List Int)}{first:Int}{s:List Bool},-1<=first->(s.length:Int)=rows->(Aca rows first s cs=true↔CP rows cs/\(∀c∈cs,first<c.headD 0)/\∀c∈cs,∀i∈c,lget s i=some false)
 |[],first,s,hf,hs=>by
  simp only[Aca,true_iff];exact⟨⟨by simp,by simp,by simp,by simp,by simp⟩,by simp,by simp⟩
 |c::cs,first,s,hf,hs=>by
  constructor
  .intro h;obtain⟨a,b,t,s',hc,h1,h2,h3⟩:=Ank h;obtain⟨m1,m2,m3⟩:=(Aio (by omega) hs).1 h2;have hin:∀i∈c,0<=i/\i<rows:=fun i hi=>by
    have:=(zA.1 m1).1 i hi;exact⟨by omega,(m2 i hi).1⟩
   have hs':(s'.length:Int)=rows:=by rw[m3,Aof];exact hs
   have ha:0<=a:=(hin a (by rw[hc];simp)).1;obtain⟨n1,n2,n3⟩:=(Ago (by omega) hs').1 h3;have key:∀d∈cs,∀i∈d,i ∉ c/\lget s i=some false:=fun d hd i hi=>by
    have h5:=n3 d hd i hi;have h6:=n1.inn d hd i hi;rw[m3,Aoe (fun k hk=>by have:=hin k hk;omega) h6.1 (by omega)]at h5;by_cases hic:i∈c
    .rw [if_pos hic]at h5;cases h5
    .rw [if_neg hic]at h5;exact⟨hic,h5⟩
   refine⟨⟨?_,?_,?_,?_,?_⟩,?_,?_⟩
   .intro d hd;rcases zC.1 hd with rfl|hd
    .rw [hc];simp
    .exact n1.two d hd
   .intro d hd;rcases zC.1 hd with rfl|hd
    .exact (zA.1 m1).2
    .exact n1.inc d hd
   .intro d hd;rcases zC.1 hd with rfl|hd
    .exact hin
    .exact n1.inn d hd
   .refine zA.2 ⟨fun d hd=>?_,n1.heads⟩;have:=n2 d hd;rw[hc];exact this
   .exact zA.2 ⟨fun d hd i hi hid=>(key d hd i hid).1 hi,n1.disj⟩
   .intro d hd;rcases zC.1 hd with rfl|hd
    .rw [hc];exact h1
    .have:=n2 d hd;omega
   .intro d hd i hi;rcases zC.1 hd with rfl|hd
    .exact (m2 i hi).2
    .exact (key d hd i hi).2
  .rintro ⟨⟨p1,p2,p3,p4,p5⟩,q1,q2⟩
   match c,p1 c (by simp),p1,p2,p3,p4,p5,q1,q2 with
   |a::b::t,_,p1,p2,p3,p4,p5,q1,q2=>
    have ho:Ac6 rows (-1) s (a::b::t)=some (Al0 s (a::b::t)):=(Aio (by omega) hs).2 ⟨zA.2 ⟨fun i hi=>by have:=(p3 _ (by simp) i hi).1;omega,p2 _ (by simp)⟩,fun i hi=>⟨(p3 _ (by simp) i hi).2,q2 _ (by simp) i hi⟩,rfl⟩;have ha:=p3 (a::b::t) (by simp) a (by simp);simp only[Aca];rw[if_neg (by have:=q1 (a::b::t) (by simp);simp at this;omega),ho];refine(Ago (by omega) (by rw[Aof];exact hs)).2 ⟨⟨fun d hd=>p1 d (by simp[hd]),fun d hd=>p2 d (by simp[hd]),fun d hd=>p3 d (by simp[hd]),(zA.1 p4).2,(zA.1 p5).2⟩,fun d hd=>?_,fun d hd i hi=>?_⟩
    .exact (zA.1 p4).1 d hd
    .have h6:=p3 d (by simp[hd]) i hi;rw[Aoe (fun k hk=>by have:=p3 (a::b::t) (by simp) k hk;omega) h6.1 (by omega),if_neg]
     .exact q2 d (by simp[hd]) i hi
     .exact fun hic=>(zA.1 p5).1 d hd i hic hi
theorem Afv{p:api_Partition}:Acp p=true↔0<=p.Rows/\p.Rows<=1000/\CP p.Rows p.Classes:=by
 constructor
 .intro h;obtain⟨h1,h2,h3⟩:=Az6 h;exact⟨h1,h2,((Ago (by omega) (by simp;omega)).1 h3).1⟩
 .rintro ⟨h1,h2,h3⟩;unfold Acp;rw[if_neg (by omega),if_neg (by omega)];refine(Ago (by omega) (by simp;omega)).2 ⟨h3,fun c hc=>?_,fun c hc i hi=>?_⟩
  .have h4:=h3.two c hc
   match c,h4,hc with
   |a::t,_,hc=>have:=h3.inn _ hc a (by simp);simp;omega
  .have:=h3.inn c hc i hi;simp only[lget,if_pos this.1,List.getElem?_replicate];rw[if_pos (by omega)]
def Same(p:api_Partition)(i j:Int):Prop:=i=j∨∃c∈p.Classes,i∈c/\j∈c
theorem Ak3{a:Int}:∀{r:List Int}{l:List Int}{j:Int},(∀i∈r,0<=i/\i<l.length)->0<=j->j<l.length->lget (Afn a l r) j=if j∈r then some a else lget l j
 |[],_,_,_,_,_=>by simp[Afn]
 |i::r,l,j,h,hj,hjl=>by
  have hi:=h i (by simp);simp only[Afn];rw[Ak3 (fun k hk=>by rw[Abw];exact h k (by simp[hk])) hj (by rw[Abw];exact hjl)];by_cases h1:j∈r
  .simp [h1]
  .rw [if_neg h1,Akx hi.1 hj];by_cases h2:i=j
   .subst h2;simp[hi.2]
   .rw [if_neg h2,if_neg];simp only[zC,not_or];exact⟨fun h=>h2 h.symm,h1⟩
def Ahn:List (Int×List Int)->List Int->List Int
 |[],l=>l
 |(a,c)::r,l=>Ahn r (Afn a l c)
theorem Asf:∀{r:List (Int×List Int)}{l:List Int},(Ahn r l).length=l.length
 |[],_=>rfl
 |(a,c)::r,l=>by simp only[Ahn];rw[Asf,Aco]
theorem Amy:∀{r:List (Int×List Int)}{l:List Int}{j:Int},(∀x∈r,∀i∈x.2,0<=i/\i<l.length)->0<=j->j<l.length->(∀x∈r,j ∉ x.2)->lget (Ahn r l) j=lget l j
 |[],_,_,_,_,_,_=>rfl
 |(a,c)::r,l,j,h,hj,hjl,hn=>by
  simp only[Ahn];rw[Amy (fun x hx=>by rw[Aco];exact h x (by simp[hx])) hj (by rw[Aco];exact hjl) (fun x hx=>hn x (by simp[hx])),Ak3 (h (a,c) (by simp)) hj hjl,if_neg (hn (a,c) (by simp))]
theorem Avm:∀{r:List (Int×List Int)}{l:List Int}{j:Int}{x:Int×List Int},(∀x∈r,∀i∈x.2,0<=i/\i<l.length)->0<=j->j<l.length->r.Pairwise (fun x y=>∀i∈x.2,i ∉ y.2)->x∈r->j∈x.2->lget (Ahn r l) j=some x.1
 |[],_,_,_,_,_,_,_,hx,_=>by cases hx
 |(a,c)::r,l,j,x,h,hj,hjl,hp,hx,hjx=>by
  simp only[Ahn];have hp':=zA.1 hp;rcases zC.1 hx with rfl|hx
  .rw [Amy (fun x hx=>by rw[Aco];exact h x (by simp[hx])) hj (by rw[Aco];exact hjl) (fun y hy=>hp'.1 y hy j hjx),Ak3 (h (a,c) (by simp)) hj hjl,if_pos hjx]
  .exact Avm (fun x hx=>by rw[Aco];exact h x (by simp[hx])) hj (by rw[Aco];exact hjl) hp'.2 hx hjx
theorem Bdv{c:List Int}(h:2<=c.length):c.headD 0∈c:=by
 match c,h with
 |a::t,_=>simp
end Go.Own
namespace Go.Own
open Go.Proofs D
set_option maxRecDepth 100000
set_option maxHeartbeats 4000000
namespace q66_
noncomputable def B:Code:=(Tryz.f111.body).getD .skip
def W:List Nat:=[0,1,2,3,4,5,6,8,13,14,15,24,25,26,27,31,32,33,34]
def res(r:List Int):D×List D:=(.own (r.map (eI .i64)),[])
def C(x0:api_Partition)(r:List Int):Prop:=Ret env 111 [.agg [.lit (.int .i64 x0.Rows),.sl (x0.Classes.map (eSl (eI .i64)))]] (res r).1 (res r).2
def L1(x0:api_Partition)(z0:List Int)(z1:Int)(φ:List Int->Prop):Prop:=Pt env 111 W B [1,1,0,1,0] [(0,.agg [.lit (.int .i64 x0.Rows),.sl (x0.Classes.map (eSl (eI .i64)))]),(1,.box [.lit (.int .i64 x0.Rows),.sl (x0.Classes.map (eSl (eI .i64)))]),(3,.own (z0.map (eI .i64))),(13,.lit (.int .i64 ((zD x0.Rows.toNat (0:Int)).length:Int))),(14,.lit (.int .i64 z1))] (Lv env 111 Tryz.f111 1 res φ)
def L2(x0:api_Partition)(z0:List Int)(z1:Int)(φ:List Int->Prop):Prop:=Pt env 111 W B [1,1,1,0,1,0] [(0,.agg [.lit (.int .i64 x0.Rows),.sl (x0.Classes.map (eSl (eI .i64)))]),(1,.box [.lit (.int .i64 x0.Rows),.sl (x0.Classes.map (eSl (eI .i64)))]),(3,.own (z0.map (eI .i64))),(24,.sl (x0.Classes.map (eSl (eI .i64)))),(25,.lit (.int .i64 (x0.Classes.length:Int))),(26,.lit (.int .i64 z1))] (Lv env 111 Tryz.f111 1 res φ)
def L3(x0:api_Partition)(z0:List Int)(z1:Int)(a4:List Int)(z2 z3:Int)(φ:List Int->Prop):Prop:=Pt env 111 W B [1,1,1,0,1,0,0,1,1,0,0,1,1,0] [(0,.agg [.lit (.int .i64 x0.Rows),.sl (x0.Classes.map (eSl (eI .i64)))]),(1,.box [.lit (.int .i64 x0.Rows),.sl (x0.Classes.map (eSl (eI .i64)))]),(3,.own (z0.map (eI .i64))),(5,.lit (.int .i64 z1)),(6,.sl (a4.map (eI .i64))),(24,.sl (x0.Classes.map (eSl (eI .i64)))),(25,.lit (.int .i64 (x0.Classes.length:Int))),(26,.lit (.int .i64 z2)),(31,.sl (a4.map (eI .i64))),(32,.lit (.int .i64 (a4.length:Int))),(33,.lit (.int .i64 z3))] (Lv env 111 Tryz.f111 1 res φ)
theorem L1_step(x0:api_Partition)(z0:List Int)(z1:Int)(φ:List Int->Prop)(h:(if z1<((zD x0.Rows.toNat (0:Int)).length:Int)then ∃a2,lget z0 z1=some a2/\L1 x0 (lset z0 z1 (IntKind.wrap .i64 ((-1)-z1))) (IntKind.wrap .i64 (z1+1)) φ else L2 x0 z0 0 φ)):L1 x0 z0 z1 φ:=mIn<|mAsk 2 h dT dF (fun h=>mIy 12 (eI .i64) h fun a2 h3 h=>mSto 0 (eI .i64) (IntKind.wrap .i64 ((-1)-z1)) h3<|mFin 5 h) fun h=>mLen 6 (eSl (eI .i64)) x0.Classes<|mFin 2 h
theorem L2_step(x0:api_Partition)(z0:List Int)(z1:Int)(φ:List Int->Prop)(h:(if z1<(x0.Classes.length:Int)then ∃a4,lget x0.Classes z1=some a4/\L3 x0 z0 z1 a4 z1 0 φ else φ z0)):L2 x0 z0 z1 φ:=mIn<|mAsk 2 h dT dF (fun h=>mIx 5 (eSl (eI .i64)) h fun a4 h5 h=>mLen 6 (eI .i64) a4<|mFin 2 h) fun h=>mRet 7 h
theorem L3_step(x0:api_Partition)(z0:List Int)(z1:Int)(a4:List Int)(z2 z3:Int)(φ:List Int->Prop)(h:(if z3<(a4.length:Int)then ∃a6,lget a4 z3=some a6/\∃a8,lget z0 a6=some a8/\L3 x0 (lset z0 a6 z1) z1 a4 z2 (IntKind.wrap .i64 (z3+1)) φ else L2 x0 z0 (IntKind.wrap .i64 (z2+1)) φ)):L3 x0 z0 z1 a4 z2 z3 φ:=mIn<|mAsk 2 h dT dF (fun h=>mIx 4 (eI .i64) h fun a6 h7 h=>mIy 7 (eI .i64) h fun a8 h9 h=>mSto 0 (eI .i64) z1 h9<|mFin 5 h) fun h=>mFin 7 h
theorem enter(x0:api_Partition)(φ:List Int->Prop)(h:(0<=x0.Rows/\x0.Rows*8<=281474976710656)/\L1 x0 (zD x0.Rows.toNat (0:Int)) 0 φ):∃r,φ r/\C x0 r:=mEnt (fd:=Tryz.f111) (body:=B) (V:=W) (res:=res)<|h.elim fun h1 h=>mVl 7 (Ar9 (t:=92) (x:=(.tmp 10)) (y:=(.tmp 10)) (q:=.i64) (i:=x0.Rows) (et:=3) (z:=.lit (.int .i64 0)) (e:=(eI .i64)) (a:=(0:Int)) (k:=8) (by kernel_rfl) (by kernel_rfl) (by kernel_rfl) (by kernel_rfl) (by kernel_rfl) (by kernel_rfl) (by kernel_rfl) (by kernel_rfl) (by kernel_rfl) (by kernel_rfl) h1.1 h1.2)<|mLen 4 (eI .i64) (zD x0.Rows.toNat (0:Int))<|mFin 2 h
end q66_
namespace q93_
noncomputable def B:Code:=(Tryz.f110.body).getD .skip
def W:List Nat:=[0,1,2,3,4,12,17]
def res(r:Int):D×List D:=(.lit (.int .i64 r),[])
def C(x0 x1:api_Partition)(r:Int):Prop:=Ret env 110 [.agg [.lit (.int .i64 x0.Rows),.sl (x0.Classes.map (eSl (eI .i64)))],.agg [.lit (.int .i64 x1.Rows),.sl (x1.Classes.map (eSl (eI .i64)))]] (res r).1 (res r).2
theorem enter(x0 x1:api_Partition)(φ:Int->Prop)(h:∃r1:Bool,q80_.C x0 r1/\(if r1=true then ∃r2:Bool,q80_.C x1 r2/\(if r2=true then(if x0.Rows=x1.Rows then φ 0 else φ 6)else φ 1)else φ 1)):∃r,φ r/\C x0 x1 r:=mEnt (fd:=Tryz.f110) (body:=B) (V:=W) (res:=res)<|Aaw 7 h (fun _ h=>h) (fun _ h=>Aaw 3 h (fun _ h=>h) (fun _ h=>Abs 10 h Aby Abx (fun h=>mRet 5 h) fun h=>mRet 6 h) fun _ h=>mRet 7 h) fun _ h=>mRet 11 h
end q93_
end Go.Own
namespace Go.Own
def negs(n:Nat):List Int:=(zX n).map fun(k:Nat)=>-1-(k:Int)
theorem Bgb{n k:Nat}(h:k<n):(negs n)[k]?=some (-1-(k:Int)):=by simp[negs,h]
theorem Agt{n:Nat}:(negs n).length=n:=by simp[negs]
def idx:Nat->List (List Int)->List (Int×List Int)
 |_,[]=>[]
 |k,c::cs=>((k:Int),c)::idx (k+1) cs
theorem Agz:∀{cs:List (List Int)}{k:Nat}{x:Int×List Int},x∈idx k cs->∃n:Nat,k<=n/\x.1=(n:Int)/\cs[n-k]?=some x.2
 |[],_,_,h=>by cases h
 |c::cs,k,x,h=>by
  rcases zC.1 h with rfl|h
  .exact ⟨k,by omega,rfl,by simp⟩
  .obtain ⟨n,h1,h2,h3⟩:=Agz h;refine⟨n,by omega,h2,?_⟩;have:n-k=(n-(k+1))+1:=by omega
   rw[this,zH];exact h3
theorem Ay5:∀{cs:List (List Int)}{k:Nat}{c:List Int},c∈cs->∃n:Nat,((n:Int),c)∈idx k cs
 |[],_,_,h=>by cases h
 |d::cs,k,c,h=>by
  rcases zC.1 h with rfl|h
  .exact ⟨k,by simp[idx]⟩
  .obtain ⟨n,hn⟩:=Ay5 (k:=k+1) h;exact⟨n,by simp[idx,hn]⟩
theorem Bam:∀{cs:List (List Int)}{k:Nat},(idx k cs).map Prod.snd=cs
 |[],_=>rfl
 |c::cs,k=>by simp[idx,Bam]
def labN(p:api_Partition):List Int:=Ahn (idx 0 p.Classes) (negs p.Rows.toNat)
theorem Ar0{p:api_Partition}:(labN p).length=p.Rows.toNat:=by unfold labN;rw[Asf,Agt]
namespace q66_
theorem fill{x0:api_Partition}{φ:List Int->Prop}(h0:0<=x0.Rows)(h1:x0.Rows<=1000)(hL:L2 x0 (negs x0.Rows.toNat) 0 φ):∀(m k:Nat),k+m=x0.Rows.toNat->L1 x0 (negs k++zD m 0) k φ
 |0,k,hk=>by
  apply L1_step;rw[if_neg (by simp;omega)];have:k=x0.Rows.toNat:=by omega
  simpa[this]using hL
 |m+1,k,hk=>by
  apply L1_step;rw[if_pos (by simp;omega)];have hl:(negs k).length=k:=Agt;refine⟨0,?_,?_⟩
  .rw [Abk,zV (by omega)];simp[hl]
  .rw [Aa4 (by omega),Ady (by omega) (by omega)];have:lset (negs k++zD (m+1) 0) (k:Int) (-1-(k:Int))=negs (k+1)++zD m 0:=by
    unfold lset;rw[zU,yA _ _ (by omega),hl,Nat.sub_self,yC,yE];simp[negs,yL]
   rw[this];exact fill h0 h1 hL m (k+1) (by omega)
theorem inner{x0:api_Partition}{φ:List Int->Prop}{c:List Int}{a:Int}{j:Nat}(hb:c.length<Big)(hj:j+1<Big):∀(r:List Int)(k:Nat)(l:List Int),c.drop k=r->(∀i∈r,0<=i/\i<l.length) ->
  L2 x0 (Afn a l r) ((j+1:Nat):Int) φ->L3 x0 l a c j k φ
 |[],k,l,hd,hin,h=>by
  apply L3_step;have:=Abe hd;rw[if_neg (by omega),Aa4 hj];exact h
 |i::r,k,l,hd,hin,h=>by
  apply L3_step;have hk:=Abf hd;have hi:=hin i (by simp);rw[if_pos (by omega)];obtain⟨x,hx⟩:=Ag3 (l:=l) (i:=i) hi.1 hi.2;refine⟨i,Abb hd,x,hx,?_⟩;rw[Aa4 (by unfold Big at hb;omega)];exact inner hb hj r (k+1) _ (Aah hd) (fun q hq=>by rw[Abw];exact hin q (by simp[hq])) h
theorem outer{x0:api_Partition}{φ:List Int->Prop}(hb:Aii x0):∀(cs:List (List Int))(k:Nat)(l:List Int),x0.Classes.drop k=cs->(∀c∈cs,∀i∈c,0<=i/\i<l.length) ->
  φ (Ahn (idx k cs) l)->L2 x0 l k φ
 |[],k,l,hd,hin,h=>by
  apply L2_step;have:=Abe hd;rw[if_neg (by omega)];exact h
 |c::cs,k,l,hd,hin,h=>by
  apply L2_step;have hk:=Abf hd;rw[if_pos (by omega)];have hcg:=Ab0 hd;refine⟨c,Abb hd,?_⟩;refine inner (hb.2 _ (zB hcg)) (by have:=hb.1;omega) c 0 l rfl (hin c (by simp)) ?_;exact outer hb cs (k+1) _ (Aah hd) (fun d hd i hi=>by rw[Aco];exact hin d (by simp[hd]) i hi) h
theorem spec{x0:api_Partition}(hb:Aii x0)(hv:Acp x0=true):C x0 (labN x0):=by
 obtain⟨v1,v2,v3⟩:=Afv.1 hv;obtain⟨r,h1,h2⟩:=enter x0 (fun r=>r=labN x0) (by
  refine⟨by omega,?_⟩;have:=fill (φ:=fun r=>r=labN x0) v1 v2 (outer hb x0.Classes 0 _ rfl (fun c hc i hi=>by have:=v3.inn c hc i hi;rw[Agt];omega) rfl) x0.Rows.toNat 0 (by omega)
  simpa[negs]using this)
 rw[<-h1];exact h2
end q66_
theorem Ar1{p:api_Partition}(hv:Acp p=true){i:Int}(h0:0<=i)(h1:i<p.Rows)(hn:∀c∈p.Classes,i ∉ c):lget (labN p) i=some (-1-i):=by
 obtain⟨v1,v2,v3⟩:=Afv.1 hv;unfold labN;rw[Amy (fun x hx=>?_) h0 (by rw[Agt];omega) (fun x hx=>?_)]
 .simp only[lget,if_pos h0];rw[Bgb (by omega)];congr 1;omega
 .obtain ⟨n,_,_,h3⟩:=Agz hx;intro j hj;have:=v3.inn _ (zB h3) j hj;rw[Agt];omega
 .obtain ⟨n,_,_,h3⟩:=Agz hx;exact hn _ (zB h3)
theorem Alw{p:api_Partition}(hv:Acp p=true){i:Int}{x:Int×List Int}(hc:x∈idx 0 p.Classes)(hi:i∈x.2):lget (labN p) i=some x.1:=by
 obtain⟨v1,v2,v3⟩:=Afv.1 hv;obtain⟨n,_,_,h3⟩:=Agz hc;have hin:=v3.inn _ (zB h3) i hi;unfold labN;refine Avm (fun y hy=>?_) hin.1 (by rw[Agt];omega) ?_ hc hi
 .obtain ⟨n,_,_,h3⟩:=Agz hy;intro j hj;have:=v3.inn _ (zB h3) j hj;rw[Agt];omega
 .have:=v3.disj;rw[<-Bam (cs:=p.Classes) (k:=0)]at this;exact yH.1 this
theorem Be4{p:api_Partition}(hv:Acp p=true){i j:Int}(hi:0<=i/\i<p.Rows)(hj:0<=j/\j<p.Rows):lget (labN p) i=lget (labN p) j↔Same p i j:=by
 obtain⟨v1,v2,v3⟩:=Afv.1 hv;have inn:∀{i:Int},(∃c∈p.Classes,i∈c)->∃x∈idx 0 p.Classes,i∈x.2:=by
  rintro i ⟨c,hc,hi⟩;obtain⟨n,hn⟩:=Ay5 (k:=0) hc;exact⟨_,hn,hi⟩
 constructor
 .intro h;by_cases hic:∃c∈p.Classes,i∈c
  .obtain ⟨x,hx,hxi⟩:=inn hic;obtain⟨n,_,e1,g1⟩:=Agz hx;rw[Alw hv hx hxi]at h;by_cases hjc:∃d∈p.Classes,j∈d
   .obtain ⟨y,hy,hyj⟩:=inn hjc;obtain⟨m,_,e2,g2⟩:=Agz hy;rw[Alw hv hy hyj]at h;have h2:=zE h;have:n=m:=by omega
    subst this;rw[g1]at g2;have:=zE g2;exact .inr ⟨x.2,zB g1,hxi,by rw[this];exact hyj⟩
   .rw [Ar1 hv hj.1 hj.2 (fun c hc hjc'=>hjc ⟨c,hc,hjc'⟩)]at h;have h2:=zE h;omega
  .rw [Ar1 hv hi.1 hi.2 (fun c hc hic'=>hic ⟨c,hc,hic'⟩)]at h;by_cases hjc:∃d∈p.Classes,j∈d
   .obtain ⟨y,hy,hyj⟩:=inn hjc;obtain⟨m,_,e2,g2⟩:=Agz hy;rw[Alw hv hy hyj]at h;have h2:=zE h;omega
   .rw [Ar1 hv hj.1 hj.2 (fun c hc hjc'=>hjc ⟨c,hc,hjc'⟩)]at h;exact .inl (by have:=zE h;omega)
 .rintro (rfl|⟨c,hc,h1,h2⟩)
  .rfl
  .obtain ⟨n,hn⟩:=Ay5 (k:=0) hc;rw[Alw hv hn h1,Alw hv hn h2]
def Akn(a b:api_Partition):Int:=if Acp a then(if Acp b then(if a.Rows=b.Rows then 0 else 6)else 1)else 1
theorem q93_.spec{a b:api_Partition}(ha:Aii a)(hb:Aii b):q93_.C a b (Akn a b):=by
 obtain⟨r,h1,h2⟩:=q93_.enter a b (fun r=>r=Akn a b) (by
  refine⟨_,q80_.spec ha,?_⟩;unfold Akn
  split
  .refine ⟨_,q80_.spec hb,?_⟩
   split
   .split
    .rfl
    .rfl
   .rfl
  .rfl)
 rw[<-h1];exact h2
theorem Ao5{rows:Int}:∀{cs:List (List Int)}{c:List Int},CP rows cs->c∈cs->(c.length:Int)-1<=Ahe cs/\(cs.length:Int)<=Ahe cs
 |[],_,_,h=>by cases h
 |d::cs,c,hp,h=>by
  have hd:=hp.two d (by simp);have hp':CP rows cs:=⟨fun c hc=>hp.two c (by simp[hc]),fun c hc=>hp.inc c (by simp[hc]),fun c hc=>hp.inn c (by simp[hc]),(zA.1 hp.heads).2,(zA.1 hp.disj).2⟩
  have hnn:∀{cs:List (List Int)},CP rows cs->(cs.length:Int)<=Ahe cs:=by
   intro cs
   induction cs with
   |nil=>intro _;simp[Ahe]
   |cons e cs ih=>
    intro hq;have he:=hq.two e (by simp);have:=ih ⟨fun c hc=>hq.two c (by simp[hc]),fun c hc=>hq.inc c (by simp[hc]),fun c hc=>hq.inn c (by simp[hc]),(zA.1 hq.heads).2,(zA.1 hq.disj).2⟩;simp only[Ahe,zF];omega
  have h1:=hnn hp';simp only[Ahe,zF];refine⟨?_,by omega⟩;rcases zC.1 h with rfl|h
  .omega
  .have:=(Ao5 hp' h).1;omega
theorem Bn3{x:api_Partition}(hv:Acp x=true):x.Classes.length<=1000/\∀c∈x.Classes,c.length<=1001:=by
 obtain⟨v1,v2,v3⟩:=Afv.1 hv;obtain⟨w1,w2,w3⟩:=Az6 hv;have h1:=(Arr (by simp;omega) w3).2;rw[Att]at h1;refine⟨?_,fun c hc=>?_⟩
 .cases hcs:x.Classes with
  |nil=>simp
  |cons c cs=>
   have:=(Ao5 v3 (c:=c) (by rw[hcs];simp)).2;rw[hcs]at this h1;omega
 .have:=(Ao5 v3 hc).1;omega
def lab1(r:List Int)(i:Int):Int:=(lget r i).getD 0
theorem Bap{r:List Int}{i a:Int}(h:lget r i=some a):lab1 r i=a:=by simp[lab1,h]
theorem Bg2{r:List Int}{i j:Int}(hi:0<=i/\i<r.length)(hj:0<=j/\j<r.length):lab1 r i=lab1 r j↔lget r i=lget r j:=by
 obtain⟨a,ha⟩:=Ag3 hi.1 hi.2;obtain⟨b,hb⟩:=Ag3 hj.1 hj.2;simp[lab1,ha,hb]
def cls{α:Type}[DecidableEq α](l:List α)(a:α):List Int:=((zX l.length).filter fun k=>decide (l[k]?=some a)).map fun(k:Nat)=>(k:Int)
def fsts{α:Type}[DecidableEq α](l:List α):List α:=l.foldl (fun acc a=>if a∈acc then acc else acc++[a]) []
def grpF{α:Type}[DecidableEq α](l:List α):List (List Int):=((fsts l).map (cls l)).filter fun c=>decide (2<=c.length)
section
variable{α:Type}[DecidableEq α]
theorem Ada{l:List α}{a:α}:fsts (l++[a])=if a∈fsts l then fsts l else fsts l++[a]:=by
 unfold fsts;rw[List.foldl_append];rfl
theorem Agn{p:List α->Prop}(h0:p [])(h1:∀l a,p l->p (l++[a])):∀l,p l:=by
 intro l;have:∀n (l:List α),l.length=n->p l:=by
  intro n
  induction n with
  |zero=>intro l hl;rw[List.length_eq_zero_iff.1 hl];exact h0
  |succ n ih=>
   intro l hl;have hne:l≠[]:=fun h=>by rw[h]at hl;simp at hl
   rw[<-List.dropLast_concat_getLast hne];exact h1 _ _ (ih _ (by simp[hl]))
 exact this _ l rfl
theorem Aib{l:List α}{a:α}:a∈fsts l↔a∈l:=by
 refine Agn (p:=fun l=>a∈fsts l↔a∈l) (by simp[fsts]) (fun l b ih=>?_) l;rw[Ada]
 split
 .rename_i hb;rw[ih];simp only[zN,zR];constructor
  .exact .inl
  .rintro (h|rfl)
   .exact h
   .have:a∈fsts l:=hb;exact ih.1 this
 .simp only[zN,zR,ih]
theorem Bbo{l:List α}:(fsts l).Nodup:=by
 refine Agn (p:=fun l=>(fsts l).Nodup) (by simp[fsts]) (fun l b ih=>?_) l;rw[Ada]
 split
 .exact ih
 .rename_i hb;rw[List.nodup_append];exact⟨ih,by simp,fun x hx y hy=>by simp at hy;subst hy;exact fun h=>hb (h ▸ hx)⟩
theorem Aml{l:List α}{a b:α}:cls (l++[b]) a=if b=a then cls l a++[(l.length:Int)]else cls l a:=by
 unfold cls;rw[List.length_append,zZ,yL,zS,zO];have h1:((zX l.length).filter fun k=>decide ((l++[b])[k]?=some a))=(zX l.length).filter fun k=>decide (l[k]?=some a):=by
  refine yI fun k hk=>?_;rw[List.getElem?_append_left (by simpa using hk)]
 rw[h1];by_cases h:b=a
 .simp [h]
 .simp [h]
theorem Bhh{l:List α}{a:α}(h:a ∉ l):cls l a=[]:=by
 unfold cls;have:((zX l.length).filter fun k=>decide (l[k]?=some a))=[]:=by
  rw[List.filter_eq_nil_iff];intro k _ hk;exact h (zB (by simpa using hk))
 rw[this];rfl
theorem Af4{l:List α}{a:α}{i:Int}:i∈cls l a↔lget l i=some a:=by
 unfold cls;simp only[yF,yM,List.mem_range,decide_eq_true_eq];constructor
 .rintro ⟨k,⟨_,h⟩,rfl⟩;rw[Abk];exact h
 .intro h;obtain⟨h0,h1⟩:=Abm h;exact⟨i.toNat,⟨(zP.1 h1).1,h1⟩,by omega⟩
end
def Ae9(c:List Int):Bool:=decide (2<=c.length)
theorem Avh{c:List Int}:decide ((c.length:Int)<2)=!Ae9 c:=by
 unfold Ae9;by_cases h:(c.length:Int)<2
 .have:¬2<=c.length:=by omega
  simp[h,this]
 .have:2<=c.length:=by omega
  simp[h,this]
def Afi:List (List Int)->Nat->Int
 |[],_=>-1
 |c::cs,k=>if Ae9 c then Afi cs (k+1)else(k:Int)
theorem Ani:∀{l:List (List Int)}{k:Nat},(Afi l k = -1/\∀c∈l,Ae9 c=true)∨∃n:Nat,Afi l k=((k+n:Nat):Int)/\n<l.length/\(∀c∈l.take n,Ae9 c=true)/\∃c,l[n]?=some c/\Ae9 c=false
 |[],_=>.inl ⟨rfl,by simp⟩
 |c::l,k=>by
  simp only[Afi];cases hc:Ae9 c with
  |false=>exact .inr ⟨0,by simp,by simp,by simp,c,rfl,hc⟩
  |true=>
   simp only[if_true];rcases Ani (l:=l) (k:=k+1)with⟨h1,h2⟩|⟨n,h1,h2,h3,h4⟩
   .exact .inl ⟨h1,by simpa[hc]using h2⟩
   .refine .inr ⟨n+1,by rw[h1];congr 1;omega,by simpa using h2,by simpa[hc]using h3,by simpa using h4⟩
def ixn{α:Type}[DecidableEq α]:List α->α->Nat
 |[],_=>0
 |b::l,a=>if b=a then 0 else ixn l a+1
theorem Bdz{α:Type}[DecidableEq α]{a:α}:∀{l:List α},a∈l->ixn l a<l.length
 |[],h=>by cases h
 |b::l,h=>by
  simp only[ixn,zF]
  split
  .omega
  .rename_i hb;have:=Bdz (l:=l) (a:=a) ((zC.1 h).resolve_left fun h=>hb h.symm);omega
theorem Atz{α:Type}[DecidableEq α]{a:α}:∀{l:List α},a∈l->l[ixn l a]?=some a
 |[],h=>by cases h
 |b::l,h=>by
  simp only[ixn]
  split
  .rename_i hb;subst hb;rfl
  .rename_i hb;rw[zH];exact Atz ((zC.1 h).resolve_left fun h=>hb h.symm)
theorem Bdy{α:Type}[DecidableEq α]{a:α}:∀{l m:List α},a∈l->ixn (l++m) a=ixn l a
 |[],_,h=>by cases h
 |b::l,m,h=>by
  simp only[yK,ixn]
  split
  .rfl
  .rename_i hb;rw[Bdy ((zC.1 h).resolve_left fun h=>hb h.symm)]
theorem Ay6{α:Type}[DecidableEq α]{a:α}:∀{l:List α},a ∉ l->ixn (l++[a]) a=l.length
 |[],_=>by simp[ixn]
 |b::l,h=>by
  simp only[zC,not_or]at h;simp only[yK,ixn,if_neg (Ne.symm h.1),zF];rw[Ay6 h.2]
theorem Ay8{α:Type}[DecidableEq α]{a:α}:∀{l:List α}{q:Nat},l.Nodup->l[q]?=some a->ixn l a=q
 |[],q,_,h=>by simp at h
 |b::l,0,_,h=>by
  simp only[List.getElem?_cons_zero,zJ]at h;simp[ixn,h]
 |b::l,q+1,hl,h=>by
  simp only[zH]at h;have hn:=List.nodup_cons.1 hl;have:b≠a:=fun hb=>hn.1 (hb ▸ zB h);simp only[ixn,if_neg this,Ay8 hn.2 h]
def ixOf{α:Type}[DecidableEq α](m:List (α×Int))(ks:List α):Prop:=∀a,mget a m=if a∈ks then some ((ixn ks a:Nat):Int)else none
theorem Avv{κ ν:Type}[DecidableEq κ]{k k':κ}{v:ν}:∀{l:List (κ×ν)},mget k' (mset k v l)=if k=k' then some v else mget k' l
 |[]=>by
  by_cases h:k=k'
  .subst h;simp[mset,mget]
  .simp [mset,mget,h,Ne.symm h]
 |(a,b)::l=>by
  have ih:=Avv (k:=k) (k':=k') (v:=v) (l:=l);simp only[mset];by_cases h1:k=a
  .subst h1;simp only[if_true,mget];by_cases h2:k'=k
   .subst h2;simp
   .simp [h2,Ne.symm h2]
  .simp only[if_neg h1,mget];by_cases h2:k'=a
   .subst h2;simp[h1]
   .simp only[if_neg h2];exact ih
end Go.Own
namespace Go.Own
open Go.Proofs D
set_option maxRecDepth 100000
set_option maxHeartbeats 4000000
namespace q27_
noncomputable def B:Code:=(Tryz.f140.body).getD .skip
def W:List Nat:=[0,2]
def res(r:Bool):D×List D:=(.lit (.bool r),[])
def C(x0:List Int)(r:Bool):Prop:=Ret env 140 [.sl (x0.map (eI .i64))] (res r).1 (res r).2
theorem enter(x0:List Int)(φ:Bool->Prop)(h:φ (decide ((x0.length:Int)<2))):∃r,φ r/\C x0 r:=mEnt (fd:=Tryz.f140) (body:=B) (V:=W) (res:=res)<|mLen 5 (eI .i64) x0<|mRet 3 h
end q27_
namespace q4_
noncomputable def B:Code:=(Tryz.f135.body).getD .skip
def W:List Nat:=[0,1,4,5,7,8,9,16]
def res(r:Int):D×List D:=(.lit (.int .i64 r),[])
def C(x0:List (List Int))(r:Int):Prop:=Ret env 135 [.sl (x0.map (eSl (eI .i64))),.fn 140 []] (res r).1 (res r).2
def L1(x0:List (List Int))(z0:Int)(φ:Int->Prop):Prop:=Pt env 135 W B [1,0,1,0] [(0,.sl (x0.map (eSl (eI .i64)))),(1,.fn 140 []),(7,.lit (.int .i64 (x0.length:Int))),(8,.lit (.int .i64 z0))] (Lv env 135 Tryz.f135 2 res φ)
theorem L1_step(x0:List (List Int))(z0:Int)(φ:Int->Prop)(h:(if z0<(x0.length:Int)then ∃a1,lget x0 z0=some a1/\∃r3:Bool,q27_.C a1 r3/\(if r3=true then φ z0 else L1 x0 (IntKind.wrap .i64 (z0+1)) φ)else φ (-1))):L1 x0 z0 φ:=mIn<|mAsk 2 h dT dF (fun h=>mIx 11 (eSl (eI .i64)) h fun a1 h2 h=>Aaw 1 h (fun _ h=>h) (fun _ h=>mRet 6 h) fun _ h=>mFin 7 h) fun h=>mRet 6 h
theorem enter(x0:List (List Int))(φ:Int->Prop)(h:L1 x0 0 φ):∃r,φ r/\C x0 r:=mEnt (fd:=Tryz.f135) (body:=B) (V:=W) (res:=res)<|mLen 5 (eSl (eI .i64)) x0<|mFin 2 h
end q4_
namespace q3_
noncomputable def B:Code:=(Tryz.f139.body).getD .skip
def W:List Nat:=[0,1,4,5,6,7,12,19,29]
def res(r:(List (List Int)×Bool)):D×List D:=((sown (r.1.map (eSl (eI .i64))) r.2),[])
def C(k0_0:List (List Int))(r:(List (List Int)×Bool)):Prop:=Ret env 139 [.own (k0_0.map (eSl (eI .i64))),.fn 140 []] (res r).1 (res r).2
def L1(k0_0:List (List Int))(r1 z0:Int)(φ:(List (List Int)×Bool)->Prop):Prop:=Pt env 139 W B [1,1,1,0,1,0] [(0,.own (k0_0.map (eSl (eI .i64)))),(1,.fn 140 []),(5,.lit (.int .i64 r1)),(6,.lit (.int .i64 z0))] (Lv env 139 Tryz.f139 2 res φ)
def L2(k0_0:List (List Int))(r1 z0:Int)(φ:(List (List Int)×Bool)->Prop):Prop:=Pt env 139 W B [1,1,1,0,1,0,0,1,1] [(0,.own (k0_0.map (eSl (eI .i64)))),(1,.fn 140 []),(5,.lit (.int .i64 r1)),(6,.lit (.int .i64 z0))] (Lv env 139 Tryz.f139 2 res φ)
theorem L1_step(k0_0:List (List Int))(r1 z0:Int)(φ:(List (List Int)×Bool)->Prop)(h:(if z0<(k0_0.length:Int)then ∃a2,lget k0_0 z0=some a2/\∃r4:Bool,q27_.C a2 r4/\(if r4=true then L2 k0_0 r1 z0 φ else ∃a5,lget k0_0 r1=some a5/\L2 (lset k0_0 r1 a2) (IntKind.wrap .i64 (r1+1)) z0 φ)else 0<=r1/\(r1.toNat<=k0_0.length/\k0_0.length<=k0_0.length)/\r1.toNat+(k0_0.length-r1.toNat)<=k0_0.length/\0<=r1/\r1.toNat+(k0_0.length-r1.toNat)<=k0_0.length/\r1.toNat<=k0_0.length/\(r1.toNat+(k0_0.length-r1.toNat)<=k0_0.length/\r1.toNat<=k0_0.length/\r1.toNat<=r1.toNat)/\φ (⟨(zI r1.toNat k0_0),(!((zI r1.toNat k0_0).isEmpty))⟩))):L1 k0_0 r1 z0 φ:=mIn<|mLen 4 (eSl (eI .i64)) k0_0<|mAsk 0 h dT dF (fun h=>mIy 6 (eSl (eI .i64)) h fun a2 h3 h=>mLd 0 (eSl (eI .i64)) h3<|Aaw 5 h (fun _ h=>h) (fun _ h=>mFin 4 h) fun _ h=>mIy 7 (eSl (eI .i64)) h fun a5 h6 h=>mSto 0 (eSl (eI .i64)) a2 h6<|mFin 6 h) fun h=>h.elim fun h7 h=>h.elim fun h8 h=>mVl 6 (Akg (s:=0) (ps:=[]) (t:=125) (x:=(.tmp 36)) (lo:=(some (.tmp 37))) (hi:=none) (lo':=some (r1).toNat) (hi':=none) (e:=(eSl (eI .i64))) (l:=k0_0) (et:=92) (k:=1) (by kernel_rfl) (by kernel_rfl) (Ag0 (by kernel_rfl)) (Ae7 (i:=r1) (q:=.i64) (by kernel_rfl) h7) Af5 (by kernel_rfl) (by kernel_rfl) (fun _=>rfl) (by kernel_rfl) h8.1 h8.2)<|h.elim fun h9 h=>mOp 0 (Ayo (t:=125) (x:=(.tmp 38)) (s:=0) (ps:=[]) (off:=r1.toNat) (len:=(k0_0.length-r1.toNat)) (l:=k0_0) (e:=(eSl (eI .i64))) (et:=92) (z:=.own []) (k:=1) (by kernel_rfl) (by kernel_rfl) (by kernel_rfl) (by kernel_rfl) (by kernel_rfl) (by kernel_rfl) (by kernel_rfl) (by kernel_rfl) (fun _=>rfl) h9 (by kernel_rfl)) <|
 h.elim fun h10 h=>h.elim fun h11 h=>h.elim fun h12 h=>mVl 4 (Anp (t:=125) (x:=(.tmp 39)) (hi:=(some (.tmp 40))) (hi':=r1.toNat) (e:=(eSl (eI .i64))) (l:=k0_0) (off:=r1.toNat) (len:=(k0_0.length-r1.toNat)) (z:=.own []) (et:=92) (k:=1) (s:=0) (ps:=[]) (by kernel_rfl) (by kernel_rfl) (by kernel_rfl) (Ae7 (i:=r1) (q:=.i64) (by kernel_rfl) h10) (by kernel_rfl) (by kernel_rfl) (fun _=>rfl) (by kernel_rfl) (by kernel_rfl) h11 h12)<|h.elim fun h13 h=>mRet 2 h (hl:=(Avn (t:=4) (s:=0) (n:=r1.toNat) (m:=(zI r1.toNat k0_0)) (e:=(eSl (eI .i64))) (es:=clr (eSl (eI .i64)) k0_0 r1.toNat (k0_0.length-r1.toNat) (.own [])) (by kernel_rfl) (by kernel_rfl) (by kernel_rfl) (by rw[Atm (by first|exact h13.1|omega)];exact h13.2.1) (Axi h13.1 h13.2.2) (by kernel_rfl)))
theorem L2_step(k0_0:List (List Int))(r1 z0:Int)(φ:(List (List Int)×Bool)->Prop)(h:L1 k0_0 r1 (IntKind.wrap .i64 (z0+1)) φ):L2 k0_0 r1 z0 φ:=mIn<|mFin 5 h
theorem enter(k0_0:List (List Int))(φ:(List (List Int)×Bool)->Prop)(h:∃r1:Int,q4_.C k0_0 r1/\(if r1=(-1)then φ (⟨k0_0,true⟩)else L1 k0_0 r1 (IntKind.wrap .i64 (r1+1)) φ)):∃r,φ r/\C k0_0 r:=mEnt (fd:=Tryz.f139) (body:=B) (V:=W) (res:=res)<|mCal 6 h (fun _ h=>h) (hr:=by exact(Ab5 (Aav (s:=0) (ps:=[]) (l:=k0_0) (e:=(eSl (eI .i64))) (e':=(eSl (eI .i64))) (fun _=>rfl) (by kernel_rfl)) (pr_k Ac7))) fun r1 _ h=>mAsk 4 h Ab8 Ab7 (fun h=>mRet 6 h) fun h=>mFin 8 h
end q3_
namespace q30_
noncomputable def B:Code:=(Tryz.f119.body).getD .skip
def W:List Nat:=[0,2,3,4,5,6,7,8,10,11,12,13,24]
def res(r:List (List Int)):D×List D:=(.sl (r.map (eSl (eI .i64))),[])
def C(x0:List ByteArray)(r:List (List Int)):Prop:=Ret env 119 [.sl (x0.map eS)] (res r).1 (res r).2
def L1(x0:List ByteArray)(z0:List (ByteArray×Int))(z1:List (List Int))(z2:Int)(φ:List (List Int)->Prop):Prop:=Pt env 119 W B [1,1,1,0,1,0] [(0,.sl (x0.map eS)),(3,(eMap Value.string (fun(x:Int)=>D.lit (.int .i64 x)) z0)),(4,.own (z1.map (eOw (eI .i64)))),(10,.sl (x0.map eS)),(11,.lit (.int .i64 (x0.length:Int))),(12,.lit (.int .i64 z2))] (Lv env 119 Tryz.f119 1 res φ)
def L2(x0:List ByteArray)(z0:List (ByteArray×Int))(z1:List (List Int))(z2 z3:Int)(φ:List (List Int)->Prop):Prop:=Pt env 119 W B [1,1,1,0,1,0,0,1,1,0,0,1,1,1] [(0,.sl (x0.map eS)),(3,(eMap Value.string (fun(x:Int)=>D.lit (.int .i64 x)) z0)),(4,.own (z1.map (eOw (eI .i64)))),(5,.lit (.int .i64 z2)),(7,.lit (.int .i64 z3)),(10,.sl (x0.map eS)),(11,.lit (.int .i64 (x0.length:Int))),(12,.lit (.int .i64 z2))] (Lv env 119 Tryz.f119 1 res φ)
theorem L1_step(x0:List ByteArray)(z0:List (ByteArray×Int))(z1:List (List Int))(z2:Int)(φ:List (List Int)->Prop)(h:(if z2<(x0.length:Int)then ∃a1,lget x0 z2=some a1/\(if(mhas a1 z0)=true then L2 x0 z0 z1 z2 (Bc0 a1 z0 0) φ else(z1.length+1)*24<=140737488355328/\L2 x0 (mset a1 (z1.length:Int) z0) (z1++[[]]) z2 (z1.length:Int) φ)else ∃r4:(List (List Int)×Bool),q3_.C z1 r4/\φ r4.1)):L1 x0 z0 z1 z2 φ:=mIn<|mAsk 2 h dT dF (fun h=>mIx 5 eS h fun a1 h2 h=>mVl 7 (Az5 Be0 (fun _=>by kernel_rfl) (ek:=Value.string) (ev:=(fun(x:Int)=>D.lit (.int .i64 x))) (t:=185) (x:=(.tmp 18)) (kx:=(.tmp 19)) (s:=3) (ps:=[]) (l:=z0) (kd:=.lit (.string a1)) (kv:=a1) (kt:=9) (vt:=3) (v0:=0) (by kernel_rfl) (by kernel_rfl) (by kernel_rfl) (by kernel_rfl) (by kernel_rfl) (by kernel_rfl) (by kernel_rfl) (by kernel_rfl))<|mAsk 7 h id fls (fun h=>mFin 4 h) fun h=>mLen 5 (eOw (eI .i64)) z1<|mOp 6 (Ayp Be0 (fun _=>by kernel_rfl) (ek:=Value.string) (ev:=(fun(x:Int)=>D.lit (.int .i64 x))) (t:=185) (mx:=(.tmp 27)) (kx:=(.tmp 28)) (vx:=(.tmp 29)) (s:=3) (ps:=[]) (l:=z0) (kd:=.lit (.string a1)) (kv:=a1) (kt:=9) (vt:=3) (v:=(z1.length:Int)) (d:=.lit (.int .i64 (z1.length:Int))) (by kernel_rfl) (by kernel_rfl) (by kernel_rfl) (by kernel_rfl) (by kernel_rfl) (by kernel_rfl) (by kernel_rfl) (by kernel_rfl) (by kernel_rfl) (App (by kernel_rfl)))<|mApp 4 (eOw (eI .i64)) z1 ([[]]) h fun h=>mFin 2 h) fun h=>mXit 2 [(4,.own (z1.map (eSl (eI .i64))))] (Bco (F0:=[(4,.own (z1.map (eOw (eI .i64))))]) (l:=z1) (e:=(eI .i64)) (e':=(eI .i64)) (s:=4) (by kernel_rfl) (by kernel_rfl) (by kernel_rfl) (fun _=>rfl) (by kernel_rfl) (by kernel_rfl)) <|
 Awr 2 h (fun _ h=>h) (fun(r4:(List (List Int)×Bool))=>Auy (l:=r4.1) (e:=(eSl (eI .i64))) rfl (fun _=>rfl)) (hf:=(fun _=>Afd)) fun r4 _ h=>mRet 2 h
theorem L2_step(x0:List ByteArray)(z0:List (ByteArray×Int))(z1:List (List Int))(z2 z3:Int)(φ:List (List Int)->Prop)(h:∃a5,lget z1 z3=some a5/\(a5.length+1)*8<=140737488355328/\L1 x0 z0 (lset z1 z3 (a5++[z2])) (IntKind.wrap .i64 (z2+1)) φ):L2 x0 z0 z1 z2 z3 φ:=mIn<|mIy 5 (eOw (eI .i64)) h fun a5 h6 h=>mLd 0 (eOw (eI .i64)) h6<|h.elim fun h7 h=>mOp 2 (app2 (x:=(.tmp 38)) (y:=(.tmp 40)) (t:=92) (u:=92) (et:=3) (z:=.lit (.int .i64 0)) (k:=1) (c:=8) (e:=(eI .i64)) (l:=a5) (m:=[z2]) (by kernel_rfl) (by kernel_rfl) (by kernel_rfl) (by kernel_rfl) (by kernel_rfl) (Bjz (s:=4) (ps:=[]) (n:=(z3.toNat)) (c:=0) (e:=(eOw (eI .i64))) (l:=z1) (a:=a5) (by kernel_rfl) (by kernel_rfl) (Abm h6).2 (by kernel_rfl) (by kernel_rfl) (App (by kernel_rfl))) (by kernel_rfl) (by kernel_rfl) (by kernel_rfl) (by kernel_rfl) (by kernel_rfl) (fun _=>rfl) h7)<|mVl 0 (Az3 (s:=4) (ps:=[]) (cs:=[.undef]) (t:=125) (x:=(.tmp 33)) (ix:=(.tmp 34)) (et:=92) (k:=1) (e:=(eOw (eI .i64))) (l:=z1) (i:=z3) (q:=.i64) (a:=a5) (by kernel_rfl) (by kernel_rfl) (by kernel_rfl) (by kernel_rfl) (by kernel_rfl) (by kernel_rfl) h6 (by kernel_rfl))<|mOp 0 (Bmo (t:=92) (x:=(.tmp 42)) (y:=(.tmp 41)) (s:=4) (ps:=[]) (n:=(z3.toNat)) (e:=(eOw (eI .i64))) (l:=z1) (a:=a5) (b:=(a5++[z2])) (k:=1) (cs:=[.undef]) (d:=.own ((a5++[z2]).map (eI .i64))) (by kernel_rfl) (by kernel_rfl) (by kernel_rfl) (by kernel_rfl) (Abm h6).2 (by kernel_rfl) (by kernel_rfl) (by kernel_rfl) (by kernel_rfl) (by kernel_rfl) (App (by kernel_rfl))) <|
 mFin 5 h
theorem enter(x0:List ByteArray)(φ:List (List Int)->Prop)(h:L1 x0 ([]) ([]) 0 φ):∃r,φ r/\C x0 r:=mEnt (fd:=Tryz.f119) (body:=B) (V:=W) (res:=res)<|mLen 12 eS x0<|mFin 2 h
end q30_
end Go.Own
namespace Go.Own
theorem q27_.spec{c:List Int}:q27_.C c (decide ((c.length:Int)<2)):=by
 obtain⟨r,h1,h2⟩:=q27_.enter c (fun r=>r=decide ((c.length:Int)<2)) rfl;rw[<-h1];exact h2
namespace q4_
theorem loop{x0:List (List Int)}{φ:Int->Prop}(hn:x0.length<Big):∀(r:List (List Int))(k:Nat),x0.drop k=r->φ (Afi r k)->L1 x0 k φ
 |[],k,hd,h=>by
  apply L1_step;have:=Abe hd;rw[if_neg (by omega)];exact h
 |c::r,k,hd,h=>by
  apply L1_step;have hk:=Abf hd;rw[if_pos (by omega)];refine⟨c,Abb hd,_,q27_.spec,?_⟩;rw[Avh];simp only[Afi]at h
  split
  .rename_i h1;have:Ae9 c=false:=by simpa using h1
   rw[this]at h;exact h
  .rename_i h1;have:Ae9 c=true:=by simpa using h1
   rw[this]at h;rw[Aa4 (by unfold Big at hn;omega)];exact loop hn r (k+1) (Aah hd) h
theorem spec{x0:List (List Int)}(hn:x0.length<Big):C x0 (Afi x0 0):=by
 obtain⟨r,h1,h2⟩:=enter x0 (fun r=>r=Afi x0 0) (loop hn x0 0 rfl rfl);rw[<-h1];exact h2
end q4_
namespace q3_
theorem loop{x0:List (List Int)}{φ:List (List Int)×Bool->Prop}(hn:x0.length<Big)(hφ:∀b,φ (x0.filter Ae9,b)):∀(r:List (List Int))(k j:Nat)(l:List (List Int)),x0.drop k=r->l.length=x0.length->l.drop k=x0.drop k->l.take j=(x0.take k).filter Ae9->j<=k->k<=x0.length->L1 l j k φ
 |[],k,j,l,hd,hl,h1,h2,h3,h4=>by
  apply L1_step;have hk:=Abe hd;rw[if_neg (by omega)];refine⟨by omega,⟨by omega,by omega⟩,by omega,by omega,by omega,by omega,⟨by omega,by omega,by omega⟩,?_⟩;rw[zU,h2,zL hk];exact hφ _
 |c::r,k,j,l,hd,hl,h1,h2,h3,h4=>by
  apply L1_step;have hk:=Abf hd;rw[if_pos (by omega)];have hlk:l.drop k=c::r:=by rw[h1,hd]
  refine⟨c,Abb hlk,_,q27_.spec,?_⟩;rw[Avh];have htk:x0.take (k+1)=x0.take k++[c]:=by rw[zM,Ab0 hd];rfl
  split
  .rename_i hc;have hc:Ae9 c=false:=by simpa using hc
   apply L2_step;rw[Aa4 (by unfold Big at hn;omega)];refine loop hn hφ r (k+1) j l (Aah hd) hl ?_ ?_ (by omega) (by omega)
   .rw [Aah hlk,Aah hd]
   .rw [htk,zS,h2];simp[hc]
  .rename_i hc;have hc:Ae9 c=true:=by simpa using hc
   obtain⟨a,ha⟩:=Ag3 (l:=l) (i:=(j:Int)) (by omega) (by omega);refine⟨a,ha,?_⟩;apply L2_step;rw[Aa4 (by unfold Big at hn;omega),Aa4 (by unfold Big at hn;omega)];have hs:lset l (j:Int) c=l.set j c:=by simp[lset]
   rw[hs];refine loop hn hφ r (k+1) (j+1) (l.set j c) (Aah hd) (by simp[hl]) ?_ ?_ (by omega) (by omega)
   .rw [List.drop_set_of_lt (by omega),Aah hlk,Aah hd]
   .rw [htk,zS,<-h2,zM];have e1:(l.set j c)[j]?=some c:=by rw[List.getElem?_set_self (by omega)]
    rw[e1,List.take_set_of_le (by omega)];simp[hc]
theorem spec{x0:List (List Int)}(hn:x0.length<Big):∃b,C x0 (x0.filter Ae9,b):=by
 obtain⟨r,h1,h2⟩:=enter x0 (fun r=>r.1=x0.filter Ae9) (by
  refine⟨_,q4_.spec hn,?_⟩;rcases Ani (l:=x0) (k:=0)with⟨h1,h2⟩|⟨n,h1,h2,h3,c,h4,h5⟩
  .rw [if_pos h1];exact(yD.2 h2).symm
  .rw [if_neg (by omega),h1,Nat.zero_add,Aa4 (by unfold Big at hn;omega)];refine loop (φ:=fun r=>r.1=x0.filter Ae9) hn (fun b=>rfl) _ (n+1) n x0 rfl rfl rfl ?_ (by omega) (by omega);have htk:x0.take (n+1)=x0.take n++[c]:=by rw[zM,h4];rfl
   rw[htk,zS,yD.2 h3]
   simp[h5])
 obtain⟨l,b⟩:=r;simp only at h1;subst h1;exact⟨b,h2⟩
end q3_
namespace q30_
theorem loop{x0:List ByteArray}{φ:List (List Int)->Prop}(hn:x0.length<=10000)(hφ:φ (grpF x0)):∀(r:List ByteArray)(k:Nat)(m:List (ByteArray×Int)),x0.drop k=r->ixOf m (fsts (x0.take k))->L1 x0 m ((fsts (x0.take k)).map (cls (x0.take k))) k φ
 |[],k,m,hd,hm=>by
  apply L1_step;have hk:=Abe hd;rw[if_neg (by omega),zL hk];have hlen:((fsts x0).map (cls x0)).length<Big:=by
   rw[zK];have:∀l:List ByteArray,(fsts l).length<=l.length:=by
    intro l;refine Agn (p:=fun l=>(fsts l).length<=l.length) (by simp[fsts]) (fun l b ih=>?_) l;rw[Ada]
    split
    .simp;omega
    .simp;omega
   have:=this x0;unfold Big;omega
  obtain⟨b,hb⟩:=q3_.spec hlen;exact⟨_,hb,hφ⟩
 |a::r,k,m,hd,hm=>by
  apply L1_step;have hk:=Abf hd;rw[if_pos (by omega)];refine⟨a,Abb hd,?_⟩;have htk:x0.take (k+1)=x0.take k++[a]:=by rw[zM,Ab0 hd];rfl
  have hlen:(x0.take k).length=k:=by rw[List.length_take];omega
  have hle:(fsts (x0.take k)).length<=10000:=by
   have:∀l:List ByteArray,(fsts l).length<=l.length:=by
    intro l;refine Agn (p:=fun l=>(fsts l).length<=l.length) (by simp[fsts]) (fun l b ih=>?_) l;rw[Ada]
    split
    .simp;omega
    .simp;omega
   have:=this (x0.take k);omega
  have hcl:∀b,(cls (x0.take k) b).length<=10000:=fun b=>by
   unfold cls;rw[zK];exact Nat.le_trans (List.length_filter_le _ _) (by simp;omega)
  by_cases ha:a∈fsts (x0.take k)
  .have hg:mget a m=some ((ixn (fsts (x0.take k)) a:Nat):Int):=by rw[hm a,if_pos ha]
   rw[if_pos (by simp[mhas,hg])];apply L2_step;have hi:ixn (fsts (x0.take k)) a<(fsts (x0.take k)).length:=Bdz ha;have hgd:Bc0 a m 0=((ixn (fsts (x0.take k)) a:Nat):Int):=by simp[Bc0,hg]
   rw[hgd];refine⟨cls (x0.take k) a,?_,by have:=hcl a;omega,?_⟩
   .rw [Abk,zW,Atz ha];rfl
   .rw [Aa4 (by omega)];have ih:=loop hn hφ r (k+1) m (Aah hd) (by rw[htk,Ada,if_pos ha];exact hm);rw[htk,Ada,if_pos ha]at ih;have e:(fsts (x0.take k)).map (cls (x0.take k++[a]))=lset ((fsts (x0.take k)).map (cls (x0.take k))) ((ixn (fsts (x0.take k)) a:Nat):Int) (cls (x0.take k) a++[(k:Int)]):=by
     unfold lset;rw[zU];apply List.ext_getElem?;intro q;rw[zW,List.getElem?_set,zW,zK];by_cases hq:ixn (fsts (x0.take k)) a=q
     .subst hq;rw[if_pos rfl,if_pos hi,Atz ha];simp[Aml,hlen]
     .rw [if_neg hq];cases hv:(fsts (x0.take k))[q]? with
      |none=>rfl
      |some b=>
       simp only[Option.map_some,zJ];rw[Aml,if_neg];rintro rfl;exact hq (Ay8 Bbo hv)
    rw[e]at ih;exact ih
  .have hg:mget a m=none:=by rw[hm a,if_neg ha]
   rw[if_neg (by simp[mhas,hg])];have hal:a ∉ x0.take k:=fun h=>ha (Aib.2 h);refine⟨by rw[zK];omega,?_⟩;apply L2_step;refine⟨[],?_,by simp,?_⟩
   .rw [Abk,zV (yJ _)];simp
   .rw [Aa4 (by omega),zK];have ih:=loop hn hφ r (k+1) (mset a ((fsts (x0.take k)).length:Int) m) (Aah hd) (by
     rw[htk,Ada,if_neg ha];intro b;rw[Avv];by_cases hab:a=b
     .subst hab;rw[if_pos rfl,if_pos (by simp),Ay6 ha]
     .rw [if_neg hab,hm b];have:b∈fsts (x0.take k)++[a]↔b∈fsts (x0.take k):=by simp[Ne.symm hab]
      by_cases hb:b∈fsts (x0.take k)
      .rw [if_pos hb,if_pos (this.2 hb),Bdy hb]
      .rw [if_neg hb,if_neg (fun h=>hb (this.1 h))])
    rw[htk,Ada,if_neg ha]at ih;have e:(fsts (x0.take k)++[a]).map (cls (x0.take k++[a]))=lset ((fsts (x0.take k)).map (cls (x0.take k))++[[]]) ((fsts (x0.take k)).length:Int) ([]++[(k:Int)]):=by
     unfold lset;rw[zU,yA _ _ (by simp),zK,Nat.sub_self,yE,zO];congr 1
     .refine List.map_congr_left fun b hb=>?_;rw[Aml,if_neg];rintro rfl;exact ha hb
     .simp [Aml,Bhh hal,hlen]
    rw[e]at ih;exact ih
theorem spec{x0:List ByteArray}(hn:x0.length<=10000):C x0 (grpF x0):=by
 obtain⟨r,h1,h2⟩:=enter x0 (fun r=>r=grpF x0) (by
  have:=loop (φ:=fun r=>r=grpF x0) hn rfl x0 0 [] rfl (by intro a;simp[mget,fsts])
  simpa[fsts]using this)
 rw[<-h1];exact h2
end q30_
section
variable{α β:Type}[DecidableEq α][DecidableEq β]
structure Alike(l:List α)(m:List β):Prop where
 len:l.length=m.length
 iff:∀i j:Nat,i<l.length->j<l.length->(l[i]?=l[j]?↔m[i]?=m[j]?)
theorem Bdd{l:List α}{m:List β}(h:Alike l m){k:Nat}{a:α}{b:β}(ha:l[k]?=some a)(hb:m[k]?=some b):cls l a=cls m b:=by
 unfold cls;rw[h.len];congr 1;refine yI fun i hi=>?_;have hk:=(zP.1 ha).1;have:=h.iff i k (by rw[h.len];simpa using hi) hk;rw[ha,hb]at this;rw[decide_eq_decide];exact this
theorem Ak5{l:List α}{k:Nat}{a:α}:a∈l.take k↔∃j,j<k/\l[j]?=some a:=by
 rw[yB];constructor
 .rintro ⟨j,hj⟩;rw[List.getElem?_take]at hj
  split at hj
  .rename_i h;exact⟨j,h,hj⟩
  .cases hj
 .rintro ⟨j,h1,h2⟩;exact⟨j,by rw[List.getElem?_take_of_lt h1];exact h2⟩
theorem Af1{l:List α}{k:Nat}{a:α}(h:l[k]?=some a):l.take (k+1)=l.take k++[a]:=by rw[zM,h];rfl
theorem Avu{l:List α}{m:List β}(h:Alike l m):∀k,k<=l.length->(fsts (l.take k)).map (cls l)=(fsts (m.take k)).map (cls m)
 |0,_=>by simp[fsts]
 |k+1,hk=>by
  have ih:=Avu h k (by omega);have hl:=zT (l:=l) (i:=k) (by omega);have hm:=zT (l:=m) (i:=k) (by rw[<-h.len];omega);rw[Af1 hl,Af1 hm,Ada,Ada];have e:l[k]∈fsts (l.take k)↔m[k]'(by rw[<-h.len];omega)∈fsts (m.take k):=by
   rw[Aib,Aib,Ak5,Ak5];constructor
   .rintro ⟨j,h1,h2⟩;refine⟨j,h1,?_⟩;rw[<-hm,<-h.iff j k (by omega) (by omega),h2,hl]
   .rintro ⟨j,h1,h2⟩;refine⟨j,h1,?_⟩;rw[<-hl,h.iff j k (by omega) (by omega),h2,hm]
  by_cases hin:l[k]∈fsts (l.take k)
  .rw [if_pos hin,if_pos (e.1 hin)];exact ih
  .rw [if_neg hin,if_neg (fun hh=>hin (e.2 hh)),zO,zO,ih];simp only[List.map_cons,List.map_nil,Bdd h hl hm]
theorem Bbp{l:List α}{m:List β}(h:Alike l m):grpF l=grpF m:=by
 have:=Avu h l.length (yJ _);rw[zY,h.len,zY]at this;unfold grpF;rw[this]
theorem Arm{l:List α}{a:α}:(cls l a).Pairwise (·<·):=by
 unfold cls;rw[yH];refine List.Pairwise.imp ?_ (List.pairwise_lt_range.filter _);intro i j h;omega
theorem Bho{c:List Int}(h:c.Pairwise (·<·)){i:Int}(hi:i∈c):c.headD 0<=i:=by
 match c,h,hi with
 |a::t,h,hi=>
  simp only[List.headD_cons];rcases zC.1 hi with rfl|hi
  .omega
  .have:=(zA.1 h).1 i hi;omega
theorem Bfv{c:List Int}(h:c≠[]):c.headD 0∈c:=by
 match c,h with
 |a::t,_=>simp
theorem Bkc{l:List α}{a:α}(h:a∈l):cls l a≠[]:=by
 obtain⟨k,hk⟩:=yB.1 h;intro hn;have:((k:Nat):Int)∈cls l a:=Af4.2 (by rw[Abk];exact hk);rw[hn]at this;cases this
theorem Avd{l:List α}:∀k,k<=l.length->((fsts (l.take k)).map (cls l)).Pairwise (fun c d=>c.headD 0<d.headD 0/\∀i∈c,i ∉ d)/\∀a∈fsts (l.take k),(cls l a).headD 0<(k:Int)
 |0,_=>by simp[fsts]
 |k+1,hk=>by
  obtain⟨i1,i2⟩:=Avd (l:=l) k (by omega);obtain⟨x,hl⟩:∃x,l[k]?=some x:=⟨_,zT (by omega)⟩
  rw[Af1 hl,Ada]
  split
  .exact ⟨i1,fun a ha=>by have:=i2 a ha;omega⟩
  .rename_i hin;have hne:=Bkc (zB hl);have hkm:((k:Nat):Int)∈cls l x:=Af4.2 (by rw[Abk];exact hl);have hhead:(cls l x).headD 0=(k:Int):=by
    have h1:=Bho Arm hkm;have h2:=Af4.1 (Bfv hne);obtain⟨h3,h4⟩:=Abm h2;rcases Int.lt_or_le ((cls l x).headD 0) (k:Int)with h5|h5
    .exfalso;apply hin;rw[Aib,Ak5];exact⟨_,by omega,h4⟩
    .omega
   refine⟨?_,?_⟩
   .rw [zO,List.pairwise_append];refine⟨i1,by simp,fun c hc d hd=>?_⟩;simp only[List.map_cons,List.map_nil,zR]at hd;subst hd;obtain⟨b,hb,rfl⟩:=yF.1 hc;refine⟨by rw[hhead];exact i2 b hb,fun i hi hi2=>?_⟩;have e:=(Af4.1 hi).symm.trans (Af4.1 hi2);rw[zE e]at hb;exact hin hb
   .intro a ha;rcases zN.1 ha with ha|ha
    .have:=i2 a ha;omega
    .simp only[zR]at ha;subst ha;rw[hhead];omega
def part(l:List α):api_Partition:=⟨l.length,grpF l⟩
theorem Ak4{l:List α}{c:List Int}:c∈grpF l↔∃a∈l,c=cls l a/\2<=c.length:=by
 unfold grpF;simp only[yM,yF,decide_eq_true_eq];constructor
 .rintro ⟨⟨a,h1,rfl⟩,h2⟩;exact⟨a,Aib.1 h1,rfl,h2⟩
 .rintro ⟨a,h1,rfl,h2⟩;exact⟨⟨a,Aib.2 h1,rfl⟩,h2⟩
theorem Bjr{l:List α}:CP (l.length:Int) (grpF l):=by
 have hp:=(Avd (l:=l) l.length (yJ _)).1;rw[zY]at hp;have hp':(grpF l).Pairwise (fun c d=>c.headD 0<d.headD 0/\∀i∈c,i ∉ d):=hp.filter _;refine⟨fun c hc=>?_,fun c hc=>?_,fun c hc i hi=>?_,hp'.imp fun h=>h.1,hp'.imp fun h=>h.2⟩
 .obtain ⟨a,_,_,h⟩:=Ak4.1 hc;exact h
 .obtain ⟨a,_,rfl,_⟩:=Ak4.1 hc;exact Arm
 .obtain ⟨a,_,rfl,_⟩:=Ak4.1 hc;obtain⟨h1,h2⟩:=Abm (Af4.1 hi);have:=(zP.1 h2).1;omega
theorem An3{l:List α}(h:l.length<=1000):Acp (part l)=true:=Afv.2 ⟨by simp[part],by simp only[part];omega,Bjr⟩
theorem Bed{l:List α}{i j:Int}(hi:0<=i/\i<l.length)(hj:0<=j/\j<l.length):Same (part l) i j↔lget l i=lget l j:=by
 constructor
 .rintro (rfl|⟨c,hc,h1,h2⟩)
  .rfl
  .obtain ⟨a,_,rfl,_⟩:=Ak4.1 hc;rw[Af4.1 h1,Af4.1 h2]
 .intro h;by_cases hij:i=j
  .exact .inl hij
  .obtain ⟨a,ha⟩:=Ag3 (l:=l) hi.1 hi.2;have h1:i∈cls l a:=Af4.2 ha;have h2:j∈cls l a:=Af4.2 (h ▸ ha);refine .inr ⟨cls l a,Ak4.2 ⟨a,?_,rfl,?_⟩,h1,h2⟩
   .exact zB (Abm ha).2
   .match hc:cls l a,h1,h2 with
    |[x],h1,h2=>simp at h1 h2;exact absurd (h1.trans h2.symm) hij
    |_::_::_,_,_=>simp
theorem Bc5{l:List α}(h:l.length<=1000):Aii (part l):=by
 obtain⟨h1,h2⟩:=Bn3 (An3 h);exact⟨by unfold Big;omega,fun c hc=>by have:=h2 c hc;unfold Big;omega⟩
end
theorem Bf0{α β:Type}[DecidableEq α][DecidableEq β]{l:List α}{m:List β}(hl:l.length=m.length)(h:∀i j:Nat,i<l.length->j<l.length->(l[i]?=l[j]?↔m[i]?=m[j]?)):part l=part m:=by
 unfold part;rw[Bbp (l:=l) (m:=m) ⟨hl,h⟩,hl]
section
variable{α:Type}[DecidableEq α]
end
end Go.Own
namespace Go.Own
open Go.Proofs D
set_option maxRecDepth 100000
set_option maxHeartbeats 4000000
namespace q106_
noncomputable def B:Code:=(Tryz.f89.body).getD .skip
def W:List Nat:=[0,1,2,4,5,6,7,8,9,11,12,13,21,22,23,24,28,29,30,31]
def res(r:api_Partition):D×List D:=(.agg [.lit (.int .i64 r.Rows),.sl (r.Classes.map (eSl (eI .i64)))],[])
def C(x0:api_Table)(x1:Int)(r:api_Partition):Prop:=Ret env 89 [.agg [.lit (.string x0.Name),.sl (x0.Attrs.map eS),.sl (x0.Rows.map Aa0)],.lit (.int .u32 x1)] (res r).1 (res r).2
def L1(x0:api_Table)(r1:List Int)(z0:List ByteArray)(z1:Int)(φ:api_Partition->Prop):Prop:=Pt env 89 W B [1,1,1,0,1,0] [(0,.agg [.lit (.string x0.Name),.sl (x0.Attrs.map eS),.sl (x0.Rows.map Aa0)]),(2,.box [.lit (.string x0.Name),.sl (x0.Attrs.map eS),.sl (x0.Rows.map Aa0)]),(4,.box [.lit (.int .i64 0),.own []]),(5,.own (r1.map (eI .i64))),(6,.own (z0.map eS)),(21,.sl (x0.Rows.map Aa0)),(22,.lit (.int .i64 (x0.Rows.length:Int))),(23,.lit (.int .i64 z1))] (Lv env 89 Tryz.f89 2 res φ)
def L2(x0:api_Table)(r1:List Int)(z0:List ByteArray)(z1:Int)(a3:api_Row)(z2:List UInt8)(z3 z4:Int)(φ:api_Partition->Prop):Prop:=Pt env 89 W B [1,1,1,0,1,0,0,1,1,0,0,1,1,0,1,0] [(0,.agg [.lit (.string x0.Name),.sl (x0.Attrs.map eS),.sl (x0.Rows.map Aa0)]),(2,.box [.lit (.string x0.Name),.sl (x0.Attrs.map eS),.sl (x0.Rows.map Aa0)]),(4,.box [.lit (.int .i64 0),.own []]),(5,.own (r1.map (eI .i64))),(6,.own (z0.map eS)),(7,.lit (.int .i64 z1)),(8,.box [.lit (.int .i64 a3.ID),.sl (a3.Values.map Aa2)]),(9,.bld 159 5 z2),(21,.sl (x0.Rows.map Aa0)),(22,.lit (.int .i64 (x0.Rows.length:Int))),(23,.lit (.int .i64 z3)),(28,.alias 5 []),(29,.lit (.int .i64 (r1.length:Int))),(30,.lit (.int .i64 z4))] (Lv env 89 Tryz.f89 2 res φ)
theorem L1_step(x0:api_Table)(r1:List Int)(z0:List ByteArray)(z1:Int)(φ:api_Partition->Prop)(h:(if z1<(x0.Rows.length:Int)then ∃a3,lget x0.Rows z1=some a3/\L2 x0 r1 z0 z1 a3 ([]) z1 0 φ else ∃r5:List (List Int),q30_.C z0 r5/\φ (⟨(x0.Rows.length:Int),r5⟩:api_Partition))):L1 x0 r1 z0 z1 φ:=mIn<|mAsk 2 h dT dF (fun h=>mIx 5 Aa0 h fun a3 h4 h=>mLen 10 (eI .i64) r1<|mFin 2 h) fun h=>mXit 2 [(0,.agg [.lit (.string x0.Name),.sl (x0.Attrs.map eS),.sl (x0.Rows.map Aa0)]),(2,.box [.lit (.string x0.Name),.sl (x0.Attrs.map eS),.sl (x0.Rows.map Aa0)]),(4,.box [.lit (.int .i64 0),.own []]),(6,.sl (z0.map eS))] (Aqm (F0:=[(0,.agg [.lit (.string x0.Name),.sl (x0.Attrs.map eS),.sl (x0.Rows.map Aa0)]),(2,.box [.lit (.string x0.Name),.sl (x0.Attrs.map eS),.sl (x0.Rows.map Aa0)]),(4,.box [.lit (.int .i64 0),.own []]),(6,.own (z0.map eS))]) (l:=z0) (e:=eS) (e':=eS) (s:=6) (by kernel_rfl) (by kernel_rfl) (by kernel_rfl) (fun _=>rfl) (by kernel_rfl) (by kernel_rfl))<|mLen 3 Aa0 x0.Rows<|mLo 1 h (fun _ h=>h) (hf:=(fun _=>Bar)) fun r5 _ h=>mRet 3 h
theorem L2_step(x0:api_Table)(r1:List Int)(z0:List ByteArray)(z1:Int)(a3:api_Row)(z2:List UInt8)(z3 z4:Int)(φ:api_Partition->Prop)(h:(if z4<(r1.length:Int)then ∃a6,lget r1 z4=some a6/\∃a8,lget a3.Values a6=some a8/\∃r10:ByteArray×Int,q119_.C a8 r10/\z2.length+r10.1.size<=140737488355328/\L2 x0 r1 z0 z1 a3 (z2++r10.1.data.toList) z3 (IntKind.wrap .i64 (z4+1)) φ else ∃a12,lget z0 z1=some a12/\L1 x0 r1 (lset z0 z1 (bstr z2)) (IntKind.wrap .i64 (z3+1)) φ)):L2 x0 r1 z0 z1 a3 z2 z3 z4 φ:=mIn<|mAsk 2 h dT dF (fun h=>mIy 4 (eI .i64) h fun a6 h7 h=>mLd 0 (eI .i64) h7<|mIx 6 Aa2 h fun a8 h9 h=>mCal 1 h (fun _ h=>h) (hf:=(fun _=>Aao (Ab1 (Aa3 rfl (Aa3 rfl Aa9))) rfl)) fun r10 _ h=>h.elim fun h11 h=>Aws 8 (show Ret env 117 [.bld 159 5 z2,.lit (.string r10.1)] (.tup [.lit (.int .i64 (Adf r10.1)),.lit .nilIface]) [.bld 159 5 (z2++r10.1.data.toList)]from Bek (by kernel_rfl) h11) (hf:=(Afd))<|mFin 5 h) fun h=>Aws 6 (show Ret env 118 [.bld 159 5 z2] (.lit (.string (bstr z2))) [.box [.undef,.undef]]from Bcd (by kernel_rfl))<|mIy 0 eS h fun a12 h13 h=>mSto 0 eS (bstr z2) h13<|mFin 5 h
theorem enter(x0:api_Table)(x1:Int)(φ:api_Partition->Prop)(h:∃r1:List Int,q76_.C x1 r1/\(0<=(x0.Rows.length:Int)/\(x0.Rows.length:Int)*16<=281474976710656)/\L1 x0 r1 (zD x0.Rows.length (⟨#[]⟩:ByteArray)) 0 φ):∃r,φ r/\C x0 x1 r:=mEnt (fd:=Tryz.f89) (body:=B) (V:=W) (res:=res)<|mCal 6 h (fun _ h=>h) (hf:=(fun _=>Aao (Aa8 (e:=(eI .i64)) (fun _=>rfl)) rfl)) fun r1 _ h=>mLen 5 Aa0 x0.Rows<|h.elim fun h2 h=>mVl 0 (Ar9 (t:=37) (x:=(.tmp 18)) (y:=(.tmp 18)) (q:=.i64) (i:=(x0.Rows.length:Int)) (et:=9) (z:=.lit (.string (⟨#[]⟩:ByteArray))) (e:=eS) (a:=(⟨#[]⟩:ByteArray)) (k:=16) (by kernel_rfl) (by kernel_rfl) (by kernel_rfl) (by kernel_rfl) (by kernel_rfl) (by kernel_rfl) (by kernel_rfl) (by kernel_rfl) (by kernel_rfl) (by kernel_rfl) h2.1 h2.2)<|mLen 5 Aa0 x0.Rows<|mFin 2 h
end q106_
namespace q67_
noncomputable def B:Code:=(Tryz.f87.body).getD .skip
def W:List Nat:=[0,1,2,4]
def res(r:Bool):D×List D:=(.lit (.bool r),[])
def C(x0:api_Table)(x1:Int)(r:Bool):Prop:=Ret env 87 [.agg [.lit (.string x0.Name),.sl (x0.Attrs.map eS),.sl (x0.Rows.map Aa0)],.lit (.int .u32 x1)] (res r).1 (res r).2
theorem enter(x0:api_Table)(x1:Int)(φ:Bool->Prop)(h:0<=(x0.Attrs.length:Int)/\φ ((shrw .u64 (IntKind.wrap .u64 x1) (x0.Attrs.length:Int))==0)):∃r,φ r/\C x0 x1 r:=mEnt (fd:=Tryz.f87) (body:=B) (V:=W) (res:=res)<|mLen 9 eS x0.Attrs<|h.elim fun h1 h=>mBi 0 (Ajn (t:=143) (q:=.u64) (q':=.i64) (i1:=(IntKind.wrap .u64 x1)) h1)<|mRet 3 h
end q67_
namespace q31_
noncomputable def B:Code:=(Tryz.f121.body).getD .skip
def W:List Nat:=[0,2]
def res(r:Int):D×List D:=(.lit (.int .i64 r),[])
def C(x0 r:Int):Prop:=Ret env 121 [.lit (.int .u32 x0)] (res r).1 (res r).2
theorem enter(x0:Int)(φ:Int->Prop)(h:∃b1,((0:Int)<=(shrw .u32 x0 24)/\(⟨#[0,1,1,2,1,2,2,3,1,2,2,3,2,3,3,4,1,2,2,3,2,3,3,4,2,3,3,4,3,4,4,5,1,2,2,3,2,3,3,4,2,3,3,4,3,4,4,5,2,3,3,4,3,4,4,5,3,4,4,5,4,5,5,6,1,2,2,3,2,3,3,4,2,3,3,4,3,4,4,5,2,3,3,4,3,4,4,5,3,4,4,5,4,5,5,6,2,3,3,4,3,4,4,5,3,4,4,5,4,5,5,6,3,4,4,5,4,5,5,6,4,5,5,6,5,6,6,7,1,2,2,3,2,3,3,4,2,3,3,4,3,4,4,5,2,3,3,4,3,4,4,5,3,4,4,5,4,5,5,6,2,3,3,4,3,4,4,5,3,4,4,5,4,5,5,6,3,4,4,5,4,5,5,6,4,5,5,6,5,6,6,7,2,3,3,4,3,4,4,5,3,4,4,5,4,5,5,6,3,4,4,5,4,5,5,6,4,5,5,6,5,6,6,7,3,4,4,5,4,5,5,6,4,5,5,6,5,6,6,7,4,5,5,6,5,6,6,7,5,6,6,7,6,7,7,8]⟩:ByteArray)[(shrw .u32 x0 24).toNat]?=some b1)/\∃b4,((0:Int)<=(bAnd .u32 (shrw .u32 x0 16) 255)/\(⟨#[0,1,1,2,1,2,2,3,1,2,2,3,2,3,3,4,1,2,2,3,2,3,3,4,2,3,3,4,3,4,4,5,1,2,2,3,2,3,3,4,2,3,3,4,3,4,4,5,2,3,3,4,3,4,4,5,3,4,4,5,4,5,5,6,1,2,2,3,2,3,3,4,2,3,3,4,3,4,4,5,2,3,3,4,3,4,4,5,3,4,4,5,4,5,5,6,2,3,3,4,3,4,4,5,3,4,4,5,4,5,5,6,3,4,4,5,4,5,5,6,4,5,5,6,5,6,6,7,1,2,2,3,2,3,3,4,2,3,3,4,3,4,4,5,2,3,3,4,3,4,4,5,3,4,4,5,4,5,5,6,2,3,3,4,3,4,4,5,3,4,4,5,4,5,5,6,3,4,4,5,4,5,5,6,4,5,5,6,5,6,6,7,2,3,3,4,3,4,4,5,3,4,4,5,4,5,5,6,3,4,4,5,4,5,5,6,4,5,5,6,5,6,6,7,3,4,4,5,4,5,5,6,4,5,5,6,5,6,6,7,4,5,5,6,5,6,6,7,5,6,6,7,6,7,7,8]⟩:ByteArray)[(bAnd .u32 (shrw .u32 x0 16) 255).toNat]?=some b4)/\∃b7,((0:Int)<=(bAnd .u32 (shrw .u32 x0 8) 255)/\(⟨#[0,1,1,2,1,2,2,3,1,2,2,3,2,3,3,4,1,2,2,3,2,3,3,4,2,3,3,4,3,4,4,5,1,2,2,3,2,3,3,4,2,3,3,4,3,4,4,5,2,3,3,4,3,4,4,5,3,4,4,5,4,5,5,6,1,2,2,3,2,3,3,4,2,3,3,4,3,4,4,5,2,3,3,4,3,4,4,5,3,4,4,5,4,5,5,6,2,3,3,4,3,4,4,5,3,4,4,5,4,5,5,6,3,4,4,5,4,5,5,6,4,5,5,6,5,6,6,7,1,2,2,3,2,3,3,4,2,3,3,4,3,4,4,5,2,3,3,4,3,4,4,5,3,4,4,5,4,5,5,6,2,3,3,4,3,4,4,5,3,4,4,5,4,5,5,6,3,4,4,5,4,5,5,6,4,5,5,6,5,6,6,7,2,3,3,4,3,4,4,5,3,4,4,5,4,5,5,6,3,4,4,5,4,5,5,6,4,5,5,6,5,6,6,7,3,4,4,5,4,5,5,6,4,5,5,6,5,6,6,7,4,5,5,6,5,6,6,7,5,6,6,7,6,7,7,8]⟩:ByteArray)[(bAnd .u32 (shrw .u32 x0 8) 255).toNat]?=some b7) /\
 ∃b10,((0:Int)<=(bAnd .u32 x0 255)/\(⟨#[0,1,1,2,1,2,2,3,1,2,2,3,2,3,3,4,1,2,2,3,2,3,3,4,2,3,3,4,3,4,4,5,1,2,2,3,2,3,3,4,2,3,3,4,3,4,4,5,2,3,3,4,3,4,4,5,3,4,4,5,4,5,5,6,1,2,2,3,2,3,3,4,2,3,3,4,3,4,4,5,2,3,3,4,3,4,4,5,3,4,4,5,4,5,5,6,2,3,3,4,3,4,4,5,3,4,4,5,4,5,5,6,3,4,4,5,4,5,5,6,4,5,5,6,5,6,6,7,1,2,2,3,2,3,3,4,2,3,3,4,3,4,4,5,2,3,3,4,3,4,4,5,3,4,4,5,4,5,5,6,2,3,3,4,3,4,4,5,3,4,4,5,4,5,5,6,3,4,4,5,4,5,5,6,4,5,5,6,5,6,6,7,2,3,3,4,3,4,4,5,3,4,4,5,4,5,5,6,3,4,4,5,4,5,5,6,4,5,5,6,5,6,6,7,3,4,4,5,4,5,5,6,4,5,5,6,5,6,6,7,4,5,5,6,5,6,6,7,5,6,6,7,6,7,7,8]⟩:ByteArray)[(bAnd .u32 x0 255).toNat]?=some b10)/\φ (IntKind.wrap .i64 (IntKind.wrap .u8 ((IntKind.wrap .u8 ((IntKind.wrap .u8 ((u8i b1)+(u8i b4)))+(u8i b7)))+(u8i b10))))):∃r,φ r/\C x0 r:=mEnt (fd:=Tryz.f121) (body:=B) (V:=W) (res:=res)<|mSt 6 h fun b1 h=>mSt 3 h fun b4 h=>mSt 4 h fun b7 h=>mSt 3 h fun b10 h=>mRet 4 h
end q31_
namespace q107_
noncomputable def B:Code:=(Tryz.f93.body).getD .skip
def W:List Nat:=[0,2]
def res(r:Int):D×List D:=(.lit (.int .i64 r),[])
def C(x0 r:Int):Prop:=Ret env 93 [.lit (.int .u32 x0)] (res r).1 (res r).2
theorem enter(x0:Int)(φ:Int->Prop)(h:∃r1:Int,q31_.C x0 r1/\φ r1):∃r,φ r/\C x0 r:=mEnt (fd:=Tryz.f93) (body:=B) (V:=W) (res:=res)<|mCal 5 h (fun _ h=>h) fun r1 _ h=>mRet 2 h
end q107_
namespace q51_
noncomputable def B:Code:=(Tryz.f160.body).getD .skip
def W:List Nat:=[0,2]
def res(r:Bool):D×List D:=(.lit (.bool r),[])
def C(x0:Int)(r:Bool):Prop:=Ret env 160 [.lit (.int .u32 x0)] (res r).1 (res r).2
theorem enter(x0:Int)(φ:Bool->Prop)(h:φ (x0 != x0)):∃r,φ r/\C x0 r:=mEnt (fd:=Tryz.f160) (body:=B) (V:=W) (res:=res)<|mRet 9 h
end q51_
namespace q39_
noncomputable def B:Code:=(Tryz.f145.body).getD .skip
def W:List Nat:=[0,1,4,5,6,11,12,13,16,19]
def res(r:Int):D×List D:=(.lit (.int .i64 r),[])
def C(x0 x1 r:Int):Prop:=Ret env 145 [.lit (.int .u32 x0),.lit (.int .u32 x1)] (res r).1 (res r).2
theorem enter(x0 x1:Int)(φ:Int->Prop)(h:∃r1:Bool,q51_.C x0 r1/\∃r2:Bool,q51_.C x1 r2/\(if r1=true then(if r2=true then φ 0 else φ (-1))else(if r2=true then φ 1 else(if x0<x1 then φ (-1)else(if x1<x0 then φ 1 else φ 0))))):∃r,φ r/\C x0 x1 r:=mEnt (fd:=Tryz.f145) (body:=B) (V:=W) (res:=res)<|mCal 5 h (fun _ h=>h) fun r1 _ h=>mCal 4 h (fun _ h=>h) fun r2 _ h=>mAsk 3 h id fls (fun h=>mAsk 3 h id fls (fun h=>mRet 5 h) fun h=>mRet 6 h) fun h=>mAsk 4 h id fls (fun h=>mRet 5 h) fun h=>mAsk 6 h dT dF (fun h=>mRet 5 h) fun h=>mAsk 6 h dT dF (fun h=>mRet 5 h) fun h=>mRet 6 h
end q39_
namespace q97_
noncomputable def B:Code:=(Tryz.f159.body).getD .skip
def W:List Nat:=[0,2]
def res(r:Bool):D×List D:=(.lit (.bool r),[])
def C(x0:Int)(r:Bool):Prop:=Ret env 159 [.lit (.int .i64 x0)] (res r).1 (res r).2
theorem enter(x0:Int)(φ:Bool->Prop)(h:φ (x0 != x0)):∃r,φ r/\C x0 r:=mEnt (fd:=Tryz.f159) (body:=B) (V:=W) (res:=res)<|mRet 9 h
end q97_
namespace q81_
noncomputable def B:Code:=(Tryz.f144.body).getD .skip
def W:List Nat:=[0,1,4,5,6,11,12,13,16,19]
def res(r:Int):D×List D:=(.lit (.int .i64 r),[])
def C(x0 x1 r:Int):Prop:=Ret env 144 [.lit (.int .i64 x0),.lit (.int .i64 x1)] (res r).1 (res r).2
theorem enter(x0 x1:Int)(φ:Int->Prop)(h:∃r1:Bool,q97_.C x0 r1/\∃r2:Bool,q97_.C x1 r2/\(if r1=true then(if r2=true then φ 0 else φ (-1))else(if r2=true then φ 1 else(if x0<x1 then φ (-1)else(if x1<x0 then φ 1 else φ 0))))):∃r,φ r/\C x0 x1 r:=mEnt (fd:=Tryz.f144) (body:=B) (V:=W) (res:=res)<|mCal 5 h (fun _ h=>h) fun r1 _ h=>mCal 4 h (fun _ h=>h) fun r2 _ h=>mAsk 3 h id fls (fun h=>mAsk 3 h id fls (fun h=>mRet 5 h) fun h=>mRet 6 h) fun h=>mAsk 4 h id fls (fun h=>mRet 5 h) fun h=>mAsk 6 h dT dF (fun h=>mRet 5 h) fun h=>mAsk 6 h dT dF (fun h=>mRet 5 h) fun h=>mRet 6 h
end q81_
namespace q116_
noncomputable def B:Code:=(Tryz.f143.body).getD .skip
def W:List Nat:=[0,2,3,5,6,7,8,9,14]
def res(r:Int):D×List D:=(.lit (.int .i64 r),[])
def C(x0:List Int)(r:Int):Prop:=Ret env 143 [.sl (x0.map (eI .i64))] (res r).1 (res r).2
def L1(x0:List Int)(z0:Int)(φ:Int->Prop):Prop:=Pt env 143 W B [1,1,0,1,0] [(0,.sl (x0.map (eI .i64))),(3,.lit (.int .i64 0)),(6,.sl (x0.map (eI .i64))),(7,.lit (.int .i64 (x0.length:Int))),(8,.lit (.int .i64 z0))] (Lv env 143 Tryz.f143 1 res φ)
theorem L1_step(x0:List Int)(z0:Int)(φ:Int->Prop)(h:(if z0<(x0.length:Int)then ∃a1,lget x0 z0=some a1/\(if a1=0 then L1 x0 (IntKind.wrap .i64 (z0+1)) φ else φ a1)else φ 0)):L1 x0 z0 φ:=mIn<|mAsk 2 h dT dF (fun h=>mIx 4 (eI .i64) h fun a1 h2 h=>Abs 6 h Aby Abx (fun h=>mRet 6 h) fun h=>mFin 7 h) fun h=>mRet 7 h
theorem enter(x0:List Int)(φ:Int->Prop)(h:L1 x0 0 φ):∃r,φ r/\C x0 r:=mEnt (fd:=Tryz.f143) (body:=B) (V:=W) (res:=res)<|mLen 8 (eI .i64) x0<|mFin 2 h
end q116_
namespace q82_
noncomputable def B:Code:=(Tryz.f123.body).getD .skip
def W:List Nat:=[0,1,4]
def res(r:Int):D×List D:=(.lit (.int .i64 r),[])
def C(x0 x1 r:Int):Prop:=Ret env 123 [.lit (.int .u32 x0),.lit (.int .u32 x1)] (res r).1 (res r).2
theorem enter(x0 x1:Int)(φ:Int->Prop)(h:∃r1:Int,q107_.C x0 r1/\∃r2:Int,q107_.C x1 r2/\∃r3:Int,q81_.C r1 r2 r3/\∃r4:Int,q39_.C x0 x1 r4/\∃r5:Int,q116_.C ([r3,r4]) r5/\φ r5):∃r,φ r/\C x0 x1 r:=mEnt (fd:=Tryz.f123) (body:=B) (V:=W) (res:=res)<|mCal 5 h (fun _ h=>h) fun r1 _ h=>mCal 1 h (fun _ h=>h) fun r2 _ h=>mCal 0 h (fun _ h=>h) fun r3 _ h=>mCal 2 h (fun _ h=>h) fun r4 _ h=>mCal 1 h (fun _ h=>h) (hr:=by exact(Ab5 (Aav (s:=13) (ps:=[]) (l:=[r3,r4]) (e:=(eI .i64)) (e':=(eI .i64)) (fun _=>rfl) (by kernel_rfl)) Ac7)) fun r5 _ h=>mRet 2 h
end q82_
namespace q7_
noncomputable def B:Code:=(Tryz.f149.body).getD .skip
def W:List Nat:=[0,1,2,3,8,9,14,34,1000000]
def res(r:List Int):D×List D:=(.tup [],[.own (r.map (eI .u32))])
def C(x1 x2:Int)(k0_0 r:List Int):Prop:=Ret env 149 [.own (k0_0.map (eI .u32)),.lit (.int .i64 x1),.lit (.int .i64 x2),.fn 123 []] (res r).1 (res r).2
def L1(x1 x2 z0:Int)(k0_0:List Int)(φ:List Int->Prop):Prop:=Pt env 149 W B [1,0] [(0,.alias 1000000 []),(1,.lit (.int .i64 x1)),(2,.lit (.int .i64 x2)),(3,.fn 123 []),(8,.lit (.int .i64 z0)),(1000000,.own (k0_0.map (eI .u32)))] (Lv env 149 Tryz.f149 4 res φ)
def L2(x1 x2:Int)(z0 z1:Int)(k0_0:List Int)(φ:List Int->Prop):Prop:=Pt env 149 W B [1,0,0,1,0,0,1,0] [(0,.alias 1000000 []),(1,.lit (.int .i64 x1)),(2,.lit (.int .i64 x2)),(3,.fn 123 []),(8,.lit (.int .i64 z0)),(9,.lit (.int .i64 z1)),(1000000,.own (k0_0.map (eI .u32)))] (Lv env 149 Tryz.f149 4 res φ)
def L3(x1 x2 z0:Int)(k0_0:List Int)(φ:List Int->Prop):Prop:=Pt env 149 W B [1,0,0,1,1] [(0,.alias 1000000 []),(1,.lit (.int .i64 x1)),(2,.lit (.int .i64 x2)),(3,.fn 123 []),(8,.lit (.int .i64 z0)),(1000000,.own (k0_0.map (eI .u32)))] (Lv env 149 Tryz.f149 4 res φ)
theorem L1_step(x1 x2 z0:Int)(k0_0:List Int)(φ:List Int->Prop)(h:(if z0<x2 then L2 x1 x2 z0 z0 k0_0 φ else φ k0_0)):L1 x1 x2 z0 k0_0 φ:=mIn<|mAsk 4 h dT dF (fun h=>mFin 7 h) fun h=>mRet 2 h
theorem L2_step(x1 x2:Int)(z0 z1:Int)(k0_0:List Int)(φ:List Int->Prop)(h:(if x1<z1 then ∃a1,lget k0_0 z1=some a1/\∃a3,lget k0_0 (IntKind.wrap .i64 (z1-1))=some a3/\∃r5:Int,q82_.C a1 a3 r5/\(if r5<0 then ∃a6,lget (lset k0_0 z1 a3) (IntKind.wrap .i64 (z1-1))=some a6/\L2 x1 x2 z0 (IntKind.wrap .i64 (z1-1)) (lset (lset k0_0 z1 a3) (IntKind.wrap .i64 (z1-1)) a1) φ else L3 x1 x2 z0 k0_0 φ)else L3 x1 x2 z0 k0_0 φ)):L2 x1 x2 z0 z1 k0_0 φ:=mIn<|mAsk 4 h dT dF (fun h=>mIy 4 (eI .u32) h fun a1 h2 h=>mLd 0 (eI .u32) h2<|mIy 3 (eI .u32) h fun a3 h4 h=>mLd 0 (eI .u32) h4<|mCal 0 h (fun _ h=>h) fun r5 _ h=>mAsk 0 h dT dF (fun h=>mIyf 13 (eI .u32) h4<|mLd 0 (eI .u32) h4<|mIyf 2 (eI .u32) h2<|mLd 0 (eI .u32) h2<|mIyf 0 (eI .u32) h2<|Aet 0 (eI .u32) a3 h2<|mIy 0 (eI .u32) h fun a6 h7 h=>mSto 0 (eI .u32) a1 h7<|mFin 6 h) fun h=>mFin 4 h) fun h=>mFin 17 h
theorem L3_step(x1 x2 z0:Int)(k0_0:List Int)(φ:List Int->Prop)(h:L1 x1 x2 (IntKind.wrap .i64 (z0+1)) k0_0 φ):L3 x1 x2 z0 k0_0 φ:=mIn<|mFin 5 h
theorem enter(x1 x2:Int)(k0_0:List Int)(φ:List Int->Prop)(h:L1 x1 x2 (IntKind.wrap .i64 (x1+1)) k0_0 φ):∃r,φ r/\C x1 x2 k0_0 r:=mEnt (fd:=Tryz.f149) (body:=B) (V:=W) (res:=res)<|mFin 5 h
end q7_
namespace q17_
noncomputable def B:Code:=(Tryz.f161.body).getD .skip
def W:List Nat:=[0,1,2,3,4,10,11,18,40,58,1000000]
def res(r:List Int):D×List D:=(.tup [],[.own (r.map (eI .u32))])
def C(x1 x2 x3:Int)(k0_0 r:List Int):Prop:=Ret env 161 [.own (k0_0.map (eI .u32)),.lit (.int .i64 x1),.lit (.int .i64 x2),.lit (.int .i64 x3),.fn 123 []] (res r).1 (res r).2
def L1(x2 x3 x1:Int)(k0_0:List Int)(φ:List Int->Prop):Prop:=Pt env 161 W B [1,0] [(0,.alias 1000000 []),(2,.lit (.int .i64 x2)),(3,.lit (.int .i64 x3)),(4,.fn 123 []),(10,.lit (.int .i64 x1)),(1000000,.own (k0_0.map (eI .u32)))] (Lv env 161 Tryz.f161 5 res φ)
def L2(x2 x3:Int)(x1 z0:Int)(k0_0:List Int)(φ:List Int->Prop):Prop:=Pt env 161 W B [1,0,0,0,1,1,1,0,0] [(0,.alias 1000000 []),(2,.lit (.int .i64 x2)),(3,.lit (.int .i64 x3)),(4,.fn 123 []),(10,.lit (.int .i64 x1)),(11,.lit (.int .i64 z0)),(1000000,.own (k0_0.map (eI .u32)))] (Lv env 161 Tryz.f161 5 res φ)
theorem L1_step(x2 x3 x1:Int)(k0_0:List Int)(φ:List Int->Prop)(h:(if x2<=(IntKind.wrap .i64 ((IntKind.wrap .i64 (2*x1))+1))then φ k0_0 else(if(IntKind.wrap .i64 ((IntKind.wrap .i64 ((IntKind.wrap .i64 (2*x1))+1))+1))<x2 then ∃a1,lget k0_0 (IntKind.wrap .i64 (x3+(IntKind.wrap .i64 ((IntKind.wrap .i64 (2*x1))+1))))=some a1/\∃a3,lget k0_0 (IntKind.wrap .i64 ((IntKind.wrap .i64 (x3+(IntKind.wrap .i64 ((IntKind.wrap .i64 (2*x1))+1))))+1))=some a3/\∃r5:Int,q82_.C a1 a3 r5/\(if r5<0 then L2 x2 x3 x1 (IntKind.wrap .i64 ((IntKind.wrap .i64 ((IntKind.wrap .i64 (2*x1))+1))+1)) k0_0 φ else L2 x2 x3 x1 (IntKind.wrap .i64 ((IntKind.wrap .i64 (2*x1))+1)) k0_0 φ)else L2 x2 x3 x1 (IntKind.wrap .i64 ((IntKind.wrap .i64 (2*x1))+1)) k0_0 φ))):L1 x2 x3 x1 k0_0 φ:=mIn<|mAsk 10 h dT dF (fun h=>mRet 2 h) fun h=>mAsk 7 h dT dF (fun h=>mIy 6 (eI .u32) h fun a1 h2 h=>mLd 0 (eI .u32) h2<|mIy 5 (eI .u32) h fun a3 h4 h=>mLd 0 (eI .u32) h4<|mCal 0 h (fun _ h=>h) fun r5 _ h=>mAsk 0 h dT dF (fun h=>mFin 8 h) fun h=>mFin 4 h) fun h=>mFin 21 h
theorem L2_step(x2 x3:Int)(x1 z0:Int)(k0_0:List Int)(φ:List Int->Prop)(h:∃a6,lget k0_0 (IntKind.wrap .i64 (x3+x1))=some a6/\∃a8,lget k0_0 (IntKind.wrap .i64 (x3+z0))=some a8/\∃r10:Int,q82_.C a6 a8 r10/\(if r10<0 then ∃a11,lget (lset k0_0 (IntKind.wrap .i64 (x3+x1)) a8) (IntKind.wrap .i64 (x3+z0))=some a11/\L1 x2 x3 z0 (lset (lset k0_0 (IntKind.wrap .i64 (x3+x1)) a8) (IntKind.wrap .i64 (x3+z0)) a6) φ else φ k0_0)):L2 x2 x3 x1 z0 k0_0 φ:=mIn<|mIy 6 (eI .u32) h fun a6 h7 h=>mLd 0 (eI .u32) h7<|mIy 4 (eI .u32) h fun a8 h9 h=>mLd 0 (eI .u32) h9<|mCal 0 h (fun _ h=>h) fun r10 _ h=>mAsk 0 h dT dF (fun h=>mIyf 17 (eI .u32) h9<|mLd 0 (eI .u32) h9<|mIyf 4 (eI .u32) h7<|mLd 0 (eI .u32) h7<|mIyf 0 (eI .u32) h7<|Aet 0 (eI .u32) a8 h7<|mIy 0 (eI .u32) h fun a11 h12 h=>mSto 0 (eI .u32) a6 h12<|mFin 5 h) fun h=>mRet 3 h
theorem enter(x1 x2 x3:Int)(k0_0:List Int)(φ:List Int->Prop)(h:L1 x2 x3 x1 k0_0 φ):∃r,φ r/\C x1 x2 x3 k0_0 r:=mEnt (fd:=Tryz.f161) (body:=B) (V:=W) (res:=res)<|mFin 4 h
end q17_
namespace q18_
noncomputable def B:Code:=(Tryz.f150.body).getD .skip
def W:List Nat:=[0,1,2,3,8,9,10,11,12,21,33,1000000]
def res(r:List Int):D×List D:=(.tup [],[.own (r.map (eI .u32))])
def C(x1 x2:Int)(k0_0 r:List Int):Prop:=Ret env 150 [.own (k0_0.map (eI .u32)),.lit (.int .i64 x1),.lit (.int .i64 x2),.fn 123 []] (res r).1 (res r).2
def L1(x1 z0 z1:Int)(k0_0:List Int)(φ:List Int->Prop):Prop:=Pt env 150 W B [1,1,1,0,1,0] [(0,.alias 1000000 []),(3,.fn 123 []),(8,.lit (.int .i64 x1)),(9,.lit (.int .i64 0)),(10,.lit (.int .i64 z0)),(11,.lit (.int .i64 z1)),(1000000,.own (k0_0.map (eI .u32)))] (Lv env 150 Tryz.f150 4 res φ)
def L2(x1 z0:Int)(k0_0:List Int)(φ:List Int->Prop):Prop:=Pt env 150 W B [1,1,1,1,1,0] [(0,.alias 1000000 []),(3,.fn 123 []),(8,.lit (.int .i64 x1)),(9,.lit (.int .i64 0)),(12,.lit (.int .i64 z0)),(1000000,.own (k0_0.map (eI .u32)))] (Lv env 150 Tryz.f150 4 res φ)
theorem L1_step(x1 z0 z1:Int)(k0_0:List Int)(φ:List Int->Prop)(h:(if 0<=z1 then ∃r1:List Int,q17_.C z1 z0 x1 k0_0 r1/\L1 x1 z0 (IntKind.wrap .i64 (z1-1)) r1 φ else L2 x1 (IntKind.wrap .i64 (z0-1)) k0_0 φ)):L1 x1 z0 z1 k0_0 φ:=mIn<|mAsk 3 h dT dF (fun h=>mCal 9 h (fun _ h=>h) (hf:=(fun _=>Acg (Ab1 Aa9) (Aa8 (e:=(eI .u32)) (fun _=>rfl)))) fun r1 _ h=>mFin 6 h) fun h=>mFin 8 h
theorem L2_step(x1 z0:Int)(k0_0:List Int)(φ:List Int->Prop)(h:(if 0<=z0 then ∃a2,lget k0_0 (IntKind.wrap .i64 (x1+z0))=some a2/\∃a4,lget k0_0 x1=some a4/\∃a6,lget (lset k0_0 x1 a2) (IntKind.wrap .i64 (x1+z0))=some a6/\∃r8:List Int,q17_.C 0 z0 x1 (lset (lset k0_0 x1 a2) (IntKind.wrap .i64 (x1+z0)) a4) r8/\L2 x1 (IntKind.wrap .i64 (z0-1)) r8 φ else φ k0_0)):L2 x1 z0 k0_0 φ:=mIn<|mAsk 3 h dT dF (fun h=>mIy 14 (eI .u32) h fun a2 h3 h=>mLd 0 (eI .u32) h3<|mIy 2 (eI .u32) h fun a4 h5 h=>mLd 0 (eI .u32) h5<|mIyf 0 (eI .u32) h5<|Aet 0 (eI .u32) a2 h5<|mIy 0 (eI .u32) h fun a6 h7 h=>mSto 0 (eI .u32) a4 h7<|mCal 7 h (fun _ h=>h) (hf:=(fun _=>Acg (Ab1 Aa9) (Aa8 (e:=(eI .u32)) (fun _=>rfl)))) fun r8 _ h=>mFin 6 h) fun h=>mRet 2 h
theorem enter(x1 x2:Int)(k0_0:List Int)(φ:List Int->Prop)(h:L1 x1 (IntKind.wrap .i64 (x2-x1)) (IntKind.wrap .i64 (zG (IntKind.wrap .i64 ((IntKind.wrap .i64 (x2-x1))-1)) 2)) k0_0 φ):∃r,φ r/\C x1 x2 k0_0 r:=mEnt (fd:=Tryz.f150) (body:=B) (V:=W) (res:=res)<|mFin 19 h
end q18_
namespace q1_
noncomputable def B:Code:=(Tryz.f154.body).getD .skip
def W:List Nat:=[0,1,2,3,8,9,10,11,12,16,36,41,45,65,69,84,104,109,124,1000000]
def res(r:Bool×List Int):D×List D:=(.lit (.bool r.1),[.own (r.2.map (eI .u32))])
def C(x1 x2:Int)(k0_0:List Int)(r:Bool×List Int):Prop:=Ret env 154 [.own (k0_0.map (eI .u32)),.lit (.int .i64 x1),.lit (.int .i64 x2),.fn 123 []] (res r).1 (res r).2
def L1(x1 x2:Int)(z0 z1:Int)(k0_0:List Int)(φ:Bool×List Int->Prop):Prop:=Pt env 154 W B [1,1,0,1,0] [(0,.alias 1000000 []),(1,.lit (.int .i64 x1)),(2,.lit (.int .i64 x2)),(3,.fn 123 []),(9,.lit (.int .i64 z0)),(10,.lit (.int .i64 z1)),(1000000,.own (k0_0.map (eI .u32)))] (Lv env 154 Tryz.f154 4 res φ)
def L2(x1 x2:Int)(z0 z1:Int)(k0_0:List Int)(φ:Bool×List Int->Prop):Prop:=Pt env 154 W B [1,1,0,1,0,0,1,0,0,0,0] [(0,.alias 1000000 []),(1,.lit (.int .i64 x1)),(2,.lit (.int .i64 x2)),(3,.fn 123 []),(9,.lit (.int .i64 z0)),(10,.lit (.int .i64 z1)),(1000000,.own (k0_0.map (eI .u32)))] (Lv env 154 Tryz.f154 4 res φ)
def L5(x1 x2:Int)(z0 z1:Int)(k0_0:List Int)(φ:Bool×List Int->Prop):Prop:=Pt env 154 W B [1,1,0,1,0,0,1,0,0,1,0,0] [(0,.alias 1000000 []),(1,.lit (.int .i64 x1)),(2,.lit (.int .i64 x2)),(3,.fn 123 []),(9,.lit (.int .i64 z0)),(10,.lit (.int .i64 z1)),(1000000,.own (k0_0.map (eI .u32)))] (Lv env 154 Tryz.f154 4 res φ)
def L3(x1 x2:Int)(z0 z1 z2:Int)(z3:List Int)(φ:Bool×List Int->Prop):Prop:=Pt env 154 W B [1,1,0,1,0,0,1,0,0,1,1,1,1,0,1,0,1,0] [(0,.alias 1000000 []),(1,.lit (.int .i64 x1)),(2,.lit (.int .i64 x2)),(3,.fn 123 []),(9,.lit (.int .i64 z0)),(10,.lit (.int .i64 z1)),(11,.lit (.int .i64 z2)),(1000000,.own (z3.map (eI .u32)))] (Lv env 154 Tryz.f154 4 res φ)
def L6(x1 x2:Int)(z0 z1:Int)(z2:List Int)(φ:Bool×List Int->Prop):Prop:=Pt env 154 W B [1,1,0,1,0,0,1,0,0,1,1,1,1,1,0] [(0,.alias 1000000 []),(1,.lit (.int .i64 x1)),(2,.lit (.int .i64 x2)),(3,.fn 123 []),(9,.lit (.int .i64 z0)),(10,.lit (.int .i64 z1)),(1000000,.own (z2.map (eI .u32)))] (Lv env 154 Tryz.f154 4 res φ)
def L4(x1 x2:Int)(z0 z1 z2:Int)(z3:List Int)(φ:Bool×List Int->Prop):Prop:=Pt env 154 W B [1,1,0,1,0,0,1,0,0,1,1,1,1,1,1,0,1,0] [(0,.alias 1000000 []),(1,.lit (.int .i64 x1)),(2,.lit (.int .i64 x2)),(3,.fn 123 []),(9,.lit (.int .i64 z0)),(10,.lit (.int .i64 z1)),(12,.lit (.int .i64 z2)),(1000000,.own (z3.map (eI .u32)))] (Lv env 154 Tryz.f154 4 res φ)
def L7(x1 x2:Int)(z0 z1:Int)(z2:List Int)(φ:Bool×List Int->Prop):Prop:=Pt env 154 W B [1,1,0,1,0,0,1,1] [(0,.alias 1000000 []),(1,.lit (.int .i64 x1)),(2,.lit (.int .i64 x2)),(3,.fn 123 []),(9,.lit (.int .i64 z0)),(10,.lit (.int .i64 z1)),(1000000,.own (z2.map (eI .u32)))] (Lv env 154 Tryz.f154 4 res φ)
theorem L1_step(x1 x2:Int)(z0 z1:Int)(k0_0:List Int)(φ:Bool×List Int->Prop)(h:(if z1<5 then L2 x1 x2 z0 z1 k0_0 φ else φ (false,k0_0))):L1 x1 x2 z0 z1 k0_0 φ:=mIn<|mAsk 3 h dT dF (fun h=>mFin 3 h) fun h=>mRet 6 h
theorem L2_step(x1 x2:Int)(z0 z1:Int)(k0_0:List Int)(φ:Bool×List Int->Prop)(h:(if z0<x2 then ∃a1,lget k0_0 z0=some a1/\∃a3,lget k0_0 (IntKind.wrap .i64 (z0-1))=some a3/\∃r5:Int,q82_.C a1 a3 r5/\(if r5<0 then L5 x1 x2 z0 z1 k0_0 φ else L2 x1 x2 (IntKind.wrap .i64 (z0+1)) z1 k0_0 φ)else L5 x1 x2 z0 z1 k0_0 φ)):L2 x1 x2 z0 z1 k0_0 φ:=mIn<|mAsk 4 h dT dF (fun h=>mIy 4 (eI .u32) h fun a1 h2 h=>mLd 0 (eI .u32) h2<|mIy 3 (eI .u32) h fun a3 h4 h=>mLd 0 (eI .u32) h4<|mCal 0 h (fun _ h=>h) fun r5 _ h=>mAsk 0 h dT dF (fun h=>mFin 5 h) fun h=>mFin 10 h) fun h=>mFin 18 h
theorem L5_step(x1 x2:Int)(z0 z1:Int)(k0_0:List Int)(φ:Bool×List Int->Prop)(h:(if z0=x2 then φ (true,k0_0)else(if(IntKind.wrap .i64 (x2-x1))<50 then φ (false,k0_0)else ∃a6,lget k0_0 (IntKind.wrap .i64 (z0-1))=some a6/\∃a8,lget k0_0 z0=some a8/\∃a10,lget (lset k0_0 z0 a6) (IntKind.wrap .i64 (z0-1))=some a10/\(if 2<=(IntKind.wrap .i64 (z0-x1))then L3 x1 x2 z0 z1 (IntKind.wrap .i64 (z0-1)) (lset (lset k0_0 z0 a6) (IntKind.wrap .i64 (z0-1)) a8) φ else L6 x1 x2 z0 z1 (lset (lset k0_0 z0 a6) (IntKind.wrap .i64 (z0-1)) a8) φ)))):L5 x1 x2 z0 z1 k0_0 φ:=mIn<|mAsk 3 h Ab8 Ab7 (fun h=>mRet 5 h) fun h=>mAsk 7 h dT dF (fun h=>mRet 5 h) fun h=>mIy 12 (eI .u32) h fun a6 h7 h=>mLd 0 (eI .u32) h7<|mIy 2 (eI .u32) h fun a8 h9 h=>mLd 0 (eI .u32) h9<|mIyf 0 (eI .u32) h9<|Aet 0 (eI .u32) a6 h9<|mIy 0 (eI .u32) h fun a10 h11 h=>mSto 0 (eI .u32) a8 h11<|mAsk 5 h dT dF (fun h=>mFin 7 h) fun h=>mFin 3 h
theorem L3_step(x1 x2:Int)(z0 z1 z2:Int)(z3:List Int)(φ:Bool×List Int->Prop)(h:(if 1<=z2 then ∃a12,lget z3 z2=some a12/\∃a14,lget z3 (IntKind.wrap .i64 (z2-1))=some a14/\∃r16:Int,q82_.C a12 a14 r16/\(if r16<0 then ∃a17,lget (lset z3 z2 a14) (IntKind.wrap .i64 (z2-1))=some a17/\L3 x1 x2 z0 z1 (IntKind.wrap .i64 (z2-1)) (lset (lset z3 z2 a14) (IntKind.wrap .i64 (z2-1)) a12) φ else L6 x1 x2 z0 z1 z3 φ)else L6 x1 x2 z0 z1 z3 φ)):L3 x1 x2 z0 z1 z2 z3 φ:=mIn<|mAsk 3 h dT dF (fun h=>mIy 7 (eI .u32) h fun a12 h13 h=>mLd 0 (eI .u32) h13<|mIy 3 (eI .u32) h fun a14 h15 h=>mLd 0 (eI .u32) h15<|mCal 0 h (fun _ h=>h) fun r16 _ h=>mAsk 0 h dT dF (fun h=>mIyf 13 (eI .u32) h15<|mLd 0 (eI .u32) h15<|mIyf 2 (eI .u32) h13<|mLd 0 (eI .u32) h13<|mIyf 0 (eI .u32) h13<|Aet 0 (eI .u32) a14 h13<|mIy 0 (eI .u32) h fun a17 h18 h=>mSto 0 (eI .u32) a12 h18<|mFin 6 h) fun h=>mFin 4 h) fun h=>mFin 3 h
theorem L6_step(x1 x2:Int)(z0 z1:Int)(z2:List Int)(φ:Bool×List Int->Prop)(h:(if 2<=(IntKind.wrap .i64 (x2-z0))then L4 x1 x2 z0 z1 (IntKind.wrap .i64 (z0+1)) z2 φ else L7 x1 x2 z0 z1 z2 φ)):L6 x1 x2 z0 z1 z2 φ:=mIn<|mAsk 4 h dT dF (fun h=>mFin 7 h) fun h=>mFin 3 h
theorem L4_step(x1 x2:Int)(z0 z1 z2:Int)(z3:List Int)(φ:Bool×List Int->Prop)(h:(if z2<x2 then ∃a19,lget z3 z2=some a19/\∃a21,lget z3 (IntKind.wrap .i64 (z2-1))=some a21/\∃r23:Int,q82_.C a19 a21 r23/\(if r23<0 then ∃a24,lget (lset z3 z2 a21) (IntKind.wrap .i64 (z2-1))=some a24/\L4 x1 x2 z0 z1 (IntKind.wrap .i64 (z2+1)) (lset (lset z3 z2 a21) (IntKind.wrap .i64 (z2-1)) a19) φ else L7 x1 x2 z0 z1 z3 φ)else L7 x1 x2 z0 z1 z3 φ)):L4 x1 x2 z0 z1 z2 z3 φ:=mIn<|mAsk 4 h dT dF (fun h=>mIy 7 (eI .u32) h fun a19 h20 h=>mLd 0 (eI .u32) h20<|mIy 3 (eI .u32) h fun a21 h22 h=>mLd 0 (eI .u32) h22<|mCal 0 h (fun _ h=>h) fun r23 _ h=>mAsk 0 h dT dF (fun h=>mIyf 13 (eI .u32) h22<|mLd 0 (eI .u32) h22<|mIyf 2 (eI .u32) h20<|mLd 0 (eI .u32) h20<|mIyf 0 (eI .u32) h20<|Aet 0 (eI .u32) a21 h20<|mIy 0 (eI .u32) h fun a24 h25 h=>mSto 0 (eI .u32) a19 h25<|mFin 6 h) fun h=>mFin 4 h) fun h=>mFin 3 h
theorem L7_step(x1 x2:Int)(z0 z1:Int)(z2:List Int)(φ:Bool×List Int->Prop)(h:L1 x1 x2 z0 (IntKind.wrap .i64 (z1+1)) z2 φ):L7 x1 x2 z0 z1 z2 φ:=mIn<|mFin 5 h
theorem enter(x1 x2:Int)(k0_0:List Int)(φ:Bool×List Int->Prop)(h:L1 x1 x2 (IntKind.wrap .i64 (x1+1)) 0 k0_0 φ):∃r,φ r/\C x1 x2 k0_0 r:=mEnt (fd:=Tryz.f154) (body:=B) (V:=W) (res:=res)<|mFin 11 h
end q1_
namespace q14_
noncomputable def B:Code:=(Tryz.f156.body).getD .skip
def W:List Nat:=[0,1,2,3,4,10,11,12,13,47,66,71,120,139,144,1000000]
def res(r:Int×Bool×List Int):D×List D:=(.tup [.lit (.int .i64 r.1),.lit (.bool r.2.1)],[.own (r.2.2.map (eI .u32))])
def C(x1 x2 x3:Int)(k0_0:List Int)(r:Int×Bool×List Int):Prop:=Ret env 156 [.own (k0_0.map (eI .u32)),.lit (.int .i64 x1),.lit (.int .i64 x2),.lit (.int .i64 x3),.fn 123 []] (res r).1 (res r).2
def L1(x1 z0 z1:Int)(z2:List Int)(φ:Int×Bool×List Int->Prop):Prop:=Pt env 156 W B [1,1,1,0,0] [(0,.alias 1000000 []),(1,.lit (.int .i64 x1)),(4,.fn 123 []),(12,.lit (.int .i64 z0)),(13,.lit (.int .i64 z1)),(1000000,.own (z2.map (eI .u32)))] (Lv env 156 Tryz.f156 5 res φ)
def L2(x1 z0 z1:Int)(z2:List Int)(φ:Int×Bool×List Int->Prop):Prop:=Pt env 156 W B [1,1,1,1,0,0] [(0,.alias 1000000 []),(1,.lit (.int .i64 x1)),(4,.fn 123 []),(12,.lit (.int .i64 z0)),(13,.lit (.int .i64 z1)),(1000000,.own (z2.map (eI .u32)))] (Lv env 156 Tryz.f156 5 res φ)
def L4(x1 z0 z1:Int)(z2:List Int)(φ:Int×Bool×List Int->Prop):Prop:=Pt env 156 W B [1,1,1,1,1,0,0] [(0,.alias 1000000 []),(1,.lit (.int .i64 x1)),(4,.fn 123 []),(12,.lit (.int .i64 z0)),(13,.lit (.int .i64 z1)),(1000000,.own (z2.map (eI .u32)))] (Lv env 156 Tryz.f156 5 res φ)
def L3(x1 z0 z1:Int)(z2:List Int)(φ:Int×Bool×List Int->Prop):Prop:=Pt env 156 W B [1,1,1,1,1,1,1,1,1,0,0] [(0,.alias 1000000 []),(1,.lit (.int .i64 x1)),(4,.fn 123 []),(12,.lit (.int .i64 z0)),(13,.lit (.int .i64 z1)),(1000000,.own (z2.map (eI .u32)))] (Lv env 156 Tryz.f156 5 res φ)
def L5(x1 z0 z1:Int)(z2:List Int)(φ:Int×Bool×List Int->Prop):Prop:=Pt env 156 W B [1,1,1,1,1,1,1,1,1,0,0,0,0,0,0] [(0,.alias 1000000 []),(1,.lit (.int .i64 x1)),(4,.fn 123 []),(12,.lit (.int .i64 z0)),(13,.lit (.int .i64 z1)),(1000000,.own (z2.map (eI .u32)))] (Lv env 156 Tryz.f156 5 res φ)
def L6(x1 z0 z1:Int)(z2:List Int)(φ:Int×Bool×List Int->Prop):Prop:=Pt env 156 W B [1,1,1,1,1,1,1,1,1,0,0,0,0,1,0,0] [(0,.alias 1000000 []),(1,.lit (.int .i64 x1)),(4,.fn 123 []),(12,.lit (.int .i64 z0)),(13,.lit (.int .i64 z1)),(1000000,.own (z2.map (eI .u32)))] (Lv env 156 Tryz.f156 5 res φ)
def L7(x1 z0 z1:Int)(z2:List Int)(φ:Int×Bool×List Int->Prop):Prop:=Pt env 156 W B [1,1,1,1,1,1,1,1,1,0,0,0,0,1,1,0,0] [(0,.alias 1000000 []),(1,.lit (.int .i64 x1)),(4,.fn 123 []),(12,.lit (.int .i64 z0)),(13,.lit (.int .i64 z1)),(1000000,.own (z2.map (eI .u32)))] (Lv env 156 Tryz.f156 5 res φ)
theorem L1_step(x1 z0 z1:Int)(z2:List Int)(φ:Int×Bool×List Int->Prop)(h:(if z0<=z1 then ∃a7,lget z2 z0=some a7/\∃a9,lget z2 x1=some a9/\∃r11:Int,q82_.C a7 a9 r11/\(if r11<0 then L1 x1 (IntKind.wrap .i64 (z0+1)) z1 z2 φ else L2 x1 z0 z1 z2 φ)else L2 x1 z0 z1 z2 φ)):L1 x1 z0 z1 z2 φ:=mIn<|mAsk 4 h dT dF (fun h=>mIy 4 (eI .u32) h fun a7 h8 h=>mLd 0 (eI .u32) h8<|mIy 2 (eI .u32) h fun a9 h10 h=>mLd 0 (eI .u32) h10<|mCal 0 h (fun _ h=>h) fun r11 _ h=>mAsk 0 h dT dF (fun h=>mFin 9 h) fun h=>mFin 4 h) fun h=>mFin 16 h
theorem L2_step(x1 z0 z1:Int)(z2:List Int)(φ:Int×Bool×List Int->Prop)(h:(if z0<=z1 then ∃a12,lget z2 z1=some a12/\∃a14,lget z2 x1=some a14/\∃r16:Int,q82_.C a12 a14 r16/\(if r16<0 then L4 x1 z0 z1 z2 φ else L2 x1 z0 (IntKind.wrap .i64 (z1-1)) z2 φ)else L4 x1 z0 z1 z2 φ)):L2 x1 z0 z1 z2 φ:=mIn<|mAsk 4 h dT dF (fun h=>mIy 4 (eI .u32) h fun a12 h13 h=>mLd 0 (eI .u32) h13<|mIy 2 (eI .u32) h fun a14 h15 h=>mLd 0 (eI .u32) h15<|mCal 0 h (fun _ h=>h) fun r16 _ h=>mAsk 0 h dT dF (fun h=>mFin 5 h) fun h=>mFin 10 h) fun h=>mFin 17 h
theorem L4_step(x1 z0 z1:Int)(z2:List Int)(φ:Int×Bool×List Int->Prop)(h:(if z1<z0 then ∃a17,lget z2 x1=some a17/\∃a19,lget z2 z1=some a19/\∃a21,lget (lset z2 z1 a17) x1=some a21/\φ (z1,true,(lset (lset z2 z1 a17) x1 a19))else ∃a23,lget z2 z1=some a23/\∃a25,lget z2 z0=some a25/\∃a27,lget (lset z2 z0 a23) z1=some a27/\L3 x1 (IntKind.wrap .i64 (z0+1)) (IntKind.wrap .i64 (z1-1)) (lset (lset z2 z0 a23) z1 a25) φ)):L4 x1 z0 z1 z2 φ:=mIn<|mAsk 3 h dT dF (fun h=>mIy 9 (eI .u32) h fun a17 h18 h=>mLd 0 (eI .u32) h18<|mIy 2 (eI .u32) h fun a19 h20 h=>mLd 0 (eI .u32) h20<|mIyf 0 (eI .u32) h20<|Aet 0 (eI .u32) a17 h20<|mIy 0 (eI .u32) h fun a21 h22 h=>mSto 0 (eI .u32) a19 h22<|mRet 6 h) fun h=>mIy 10 (eI .u32) h fun a23 h24 h=>mLd 0 (eI .u32) h24<|mIy 2 (eI .u32) h fun a25 h26 h=>mLd 0 (eI .u32) h26<|mIyf 0 (eI .u32) h26<|Aet 0 (eI .u32) a23 h26<|mIy 0 (eI .u32) h fun a27 h28 h=>mSto 0 (eI .u32) a25 h28<|mFin 11 h
theorem L3_step(x1 z0 z1:Int)(z2:List Int)(φ:Int×Bool×List Int->Prop)(h:L5 x1 z0 z1 z2 φ):L3 x1 z0 z1 z2 φ:=mIn<|mFin 1 h
theorem L5_step(x1 z0 z1:Int)(z2:List Int)(φ:Int×Bool×List Int->Prop)(h:(if z0<=z1 then ∃a29,lget z2 z0=some a29/\∃a31,lget z2 x1=some a31/\∃r33:Int,q82_.C a29 a31 r33/\(if r33<0 then L5 x1 (IntKind.wrap .i64 (z0+1)) z1 z2 φ else L6 x1 z0 z1 z2 φ)else L6 x1 z0 z1 z2 φ)):L5 x1 z0 z1 z2 φ:=mIn<|mAsk 4 h dT dF (fun h=>mIy 4 (eI .u32) h fun a29 h30 h=>mLd 0 (eI .u32) h30<|mIy 2 (eI .u32) h fun a31 h32 h=>mLd 0 (eI .u32) h32<|mCal 0 h (fun _ h=>h) fun r33 _ h=>mAsk 0 h dT dF (fun h=>mFin 9 h) fun h=>mFin 4 h) fun h=>mFin 16 h
theorem L6_step(x1 z0 z1:Int)(z2:List Int)(φ:Int×Bool×List Int->Prop)(h:(if z0<=z1 then ∃a34,lget z2 z1=some a34/\∃a36,lget z2 x1=some a36/\∃r38:Int,q82_.C a34 a36 r38/\(if r38<0 then L7 x1 z0 z1 z2 φ else L6 x1 z0 (IntKind.wrap .i64 (z1-1)) z2 φ)else L7 x1 z0 z1 z2 φ)):L6 x1 z0 z1 z2 φ:=mIn<|mAsk 4 h dT dF (fun h=>mIy 4 (eI .u32) h fun a34 h35 h=>mLd 0 (eI .u32) h35<|mIy 2 (eI .u32) h fun a36 h37 h=>mLd 0 (eI .u32) h37<|mCal 0 h (fun _ h=>h) fun r38 _ h=>mAsk 0 h dT dF (fun h=>mFin 5 h) fun h=>mFin 10 h) fun h=>mFin 17 h
theorem L7_step(x1 z0 z1:Int)(z2:List Int)(φ:Int×Bool×List Int->Prop)(h:(if z1<z0 then ∃a39,lget z2 x1=some a39/\∃a41,lget z2 z1=some a41/\∃a43,lget (lset z2 z1 a39) x1=some a43/\φ (z1,false,(lset (lset z2 z1 a39) x1 a41))else ∃a45,lget z2 z1=some a45/\∃a47,lget z2 z0=some a47/\∃a49,lget (lset z2 z0 a45) z1=some a49/\L3 x1 (IntKind.wrap .i64 (z0+1)) (IntKind.wrap .i64 (z1-1)) (lset (lset z2 z0 a45) z1 a47) φ)):L7 x1 z0 z1 z2 φ:=mIn<|mAsk 3 h dT dF (fun h=>mIy 10 (eI .u32) h fun a39 h40 h=>mLd 0 (eI .u32) h40<|mIy 2 (eI .u32) h fun a41 h42 h=>mLd 0 (eI .u32) h42<|mIyf 0 (eI .u32) h42<|Aet 0 (eI .u32) a39 h42<|mIy 0 (eI .u32) h fun a43 h44 h=>mSto 0 (eI .u32) a41 h44<|mRet 6 h) fun h=>mIy 10 (eI .u32) h fun a45 h46 h=>mLd 0 (eI .u32) h46<|mIy 2 (eI .u32) h fun a47 h48 h=>mLd 0 (eI .u32) h48<|mIyf 0 (eI .u32) h48<|Aet 0 (eI .u32) a45 h48<|mIy 0 (eI .u32) h fun a49 h50 h=>mSto 0 (eI .u32) a47 h50<|mFin 11 h
theorem enter(x1 x2 x3:Int)(k0_0:List Int)(φ:Int×Bool×List Int->Prop)(h:∃a1,lget k0_0 x3=some a1/\∃a3,lget k0_0 x1=some a3/\∃a5,lget (lset k0_0 x1 a1) x3=some a5/\L1 x1 (IntKind.wrap .i64 (x1+1)) (IntKind.wrap .i64 (x2-1)) (lset (lset k0_0 x1 a1) x3 a3) φ):∃r,φ r/\C x1 x2 x3 k0_0 r:=mEnt (fd:=Tryz.f156) (body:=B) (V:=W) (res:=res)<|mIy 11 (eI .u32) h fun a1 h2 h=>mLd 0 (eI .u32) h2<|mIy 2 (eI .u32) h fun a3 h4 h=>mLd 0 (eI .u32) h4<|mIyf 0 (eI .u32) h4<|Aet 0 (eI .u32) a1 h4<|mIy 0 (eI .u32) h fun a5 h6 h=>mSto 0 (eI .u32) a3 h6<|mFin 9 h
end q14_
namespace q5_
noncomputable def B:Code:=(Tryz.f155.body).getD .skip
def W:List Nat:=[0,1,2,3,4,10,11,12,47,65,70,1000000]
def res(r:Int×List Int):D×List D:=(.lit (.int .i64 r.1),[.own (r.2.map (eI .u32))])
def C(x1 x2 x3:Int)(k0_0:List Int)(r:Int×List Int):Prop:=Ret env 155 [.own (k0_0.map (eI .u32)),.lit (.int .i64 x1),.lit (.int .i64 x2),.lit (.int .i64 x3),.fn 123 []] (res r).1 (res r).2
def L1(x1 z0 z1:Int)(z2:List Int)(φ:Int×List Int->Prop):Prop:=Pt env 155 W B [1,1,1,0,0] [(0,.alias 1000000 []),(1,.lit (.int .i64 x1)),(4,.fn 123 []),(11,.lit (.int .i64 z0)),(12,.lit (.int .i64 z1)),(1000000,.own (z2.map (eI .u32)))] (Lv env 155 Tryz.f155 5 res φ)
def L2(x1 z0 z1:Int)(z2:List Int)(φ:Int×List Int->Prop):Prop:=Pt env 155 W B [1,1,1,0,0,0,0,0,0] [(0,.alias 1000000 []),(1,.lit (.int .i64 x1)),(4,.fn 123 []),(11,.lit (.int .i64 z0)),(12,.lit (.int .i64 z1)),(1000000,.own (z2.map (eI .u32)))] (Lv env 155 Tryz.f155 5 res φ)
def L3(x1 z0 z1:Int)(z2:List Int)(φ:Int×List Int->Prop):Prop:=Pt env 155 W B [1,1,1,0,0,0,0,1,0,0] [(0,.alias 1000000 []),(1,.lit (.int .i64 x1)),(4,.fn 123 []),(11,.lit (.int .i64 z0)),(12,.lit (.int .i64 z1)),(1000000,.own (z2.map (eI .u32)))] (Lv env 155 Tryz.f155 5 res φ)
def L4(x1 z0 z1:Int)(z2:List Int)(φ:Int×List Int->Prop):Prop:=Pt env 155 W B [1,1,1,0,0,0,0,1,1,0,0] [(0,.alias 1000000 []),(1,.lit (.int .i64 x1)),(4,.fn 123 []),(11,.lit (.int .i64 z0)),(12,.lit (.int .i64 z1)),(1000000,.own (z2.map (eI .u32)))] (Lv env 155 Tryz.f155 5 res φ)
theorem L1_step(x1 z0 z1:Int)(z2:List Int)(φ:Int×List Int->Prop)(h:L2 x1 z0 z1 z2 φ):L1 x1 z0 z1 z2 φ:=mIn<|mFin 1 h
theorem L2_step(x1 z0 z1:Int)(z2:List Int)(φ:Int×List Int->Prop)(h:(if z0<=z1 then ∃a7,lget z2 x1=some a7/\∃a9,lget z2 z0=some a9/\∃r11:Int,q82_.C a7 a9 r11/\(if r11<0 then L3 x1 z0 z1 z2 φ else L2 x1 (IntKind.wrap .i64 (z0+1)) z1 z2 φ)else L3 x1 z0 z1 z2 φ)):L2 x1 z0 z1 z2 φ:=mIn<|mAsk 4 h dT dF (fun h=>mIy 4 (eI .u32) h fun a7 h8 h=>mLd 0 (eI .u32) h8<|mIy 2 (eI .u32) h fun a9 h10 h=>mLd 0 (eI .u32) h10<|mCal 0 h (fun _ h=>h) fun r11 _ h=>mAsk 0 h dT dF (fun h=>mFin 5 h) fun h=>mFin 10 h) fun h=>mFin 17 h
theorem L3_step(x1 z0 z1:Int)(z2:List Int)(φ:Int×List Int->Prop)(h:(if z0<=z1 then ∃a12,lget z2 x1=some a12/\∃a14,lget z2 z1=some a14/\∃r16:Int,q82_.C a12 a14 r16/\(if r16<0 then L3 x1 z0 (IntKind.wrap .i64 (z1-1)) z2 φ else L4 x1 z0 z1 z2 φ)else L4 x1 z0 z1 z2 φ)):L3 x1 z0 z1 z2 φ:=mIn<|mAsk 4 h dT dF (fun h=>mIy 4 (eI .u32) h fun a12 h13 h=>mLd 0 (eI .u32) h13<|mIy 2 (eI .u32) h fun a14 h15 h=>mLd 0 (eI .u32) h15<|mCal 0 h (fun _ h=>h) fun r16 _ h=>mAsk 0 h dT dF (fun h=>mFin 9 h) fun h=>mFin 4 h) fun h=>mFin 16 h
theorem L4_step(x1 z0 z1:Int)(z2:List Int)(φ:Int×List Int->Prop)(h:(if z1<z0 then φ (z0,z2)else ∃a17,lget z2 z1=some a17/\∃a19,lget z2 z0=some a19/\∃a21,lget (lset z2 z0 a17) z1=some a21/\L1 x1 (IntKind.wrap .i64 (z0+1)) (IntKind.wrap .i64 (z1-1)) (lset (lset z2 z0 a17) z1 a19) φ)):L4 x1 z0 z1 z2 φ:=mIn<|mAsk 3 h dT dF (fun h=>mRet 7 h) fun h=>mIy 10 (eI .u32) h fun a17 h18 h=>mLd 0 (eI .u32) h18<|mIy 2 (eI .u32) h fun a19 h20 h=>mLd 0 (eI .u32) h20<|mIyf 0 (eI .u32) h20<|Aet 0 (eI .u32) a17 h20<|mIy 0 (eI .u32) h fun a21 h22 h=>mSto 0 (eI .u32) a19 h22<|mFin 11 h
theorem enter(x1 x2 x3:Int)(k0_0:List Int)(φ:Int×List Int->Prop)(h:∃a1,lget k0_0 x3=some a1/\∃a3,lget k0_0 x1=some a3/\∃a5,lget (lset k0_0 x1 a1) x3=some a5/\L1 x1 (IntKind.wrap .i64 (x1+1)) (IntKind.wrap .i64 (x2-1)) (lset (lset k0_0 x1 a1) x3 a3) φ):∃r,φ r/\C x1 x2 x3 k0_0 r:=mEnt (fd:=Tryz.f155) (body:=B) (V:=W) (res:=res)<|mIy 10 (eI .u32) h fun a1 h2 h=>mLd 0 (eI .u32) h2<|mIy 2 (eI .u32) h fun a3 h4 h=>mLd 0 (eI .u32) h4<|mIyf 0 (eI .u32) h4<|Aet 0 (eI .u32) a1 h4<|mIy 0 (eI .u32) h fun a5 h6 h=>mSto 0 (eI .u32) a3 h6<|mFin 9 h
end q5_
namespace q9_
noncomputable def B:Code:=(Tryz.f153.body).getD .skip
def W:List Nat:=[0,1,2,3,8,9,15,1000000]
def res(r:List Int):D×List D:=(.tup [],[.own (r.map (eI .u32))])
def C(x1 x2:Int)(k0_0 r:List Int):Prop:=Ret env 153 [.own (k0_0.map (eI .u32)),.lit (.int .i64 x1),.lit (.int .i64 x2),.fn 123 []] (res r).1 (res r).2
def L1(x1 z0:Int)(k0_0:List Int)(φ:List Int->Prop):Prop:=Pt env 153 W B [1,1,0] [(0,.alias 1000000 []),(8,.lit (.int .i64 x1)),(9,.lit (.int .i64 z0)),(1000000,.own (k0_0.map (eI .u32)))] (Lv env 153 Tryz.f153 4 res φ)
theorem L1_step(x1 z0:Int)(k0_0:List Int)(φ:List Int->Prop)(h:(if x1<z0 then ∃a1,lget k0_0 z0=some a1/\∃a3,lget k0_0 x1=some a3/\∃a5,lget (lset k0_0 x1 a1) z0=some a5/\L1 (IntKind.wrap .i64 (x1+1)) (IntKind.wrap .i64 (z0-1)) (lset (lset k0_0 x1 a1) z0 a3) φ else φ k0_0)):L1 x1 z0 k0_0 φ:=mIn<|mAsk 4 h dT dF (fun h=>mIy 10 (eI .u32) h fun a1 h2 h=>mLd 0 (eI .u32) h2<|mIy 2 (eI .u32) h fun a3 h4 h=>mLd 0 (eI .u32) h4<|mIyf 0 (eI .u32) h4<|Aet 0 (eI .u32) a1 h4<|mIy 0 (eI .u32) h fun a5 h6 h=>mSto 0 (eI .u32) a3 h6<|mFin 11 h) fun h=>mRet 2 h
theorem enter(x1 x2:Int)(k0_0:List Int)(φ:List Int->Prop)(h:L1 x1 (IntKind.wrap .i64 (x2-1)) k0_0 φ):∃r,φ r/\C x1 x2 k0_0 r:=mEnt (fd:=Tryz.f153) (body:=B) (V:=W) (res:=res)<|mFin 9 h
end q9_
namespace q20_
noncomputable def B:Code:=(Tryz.f166.body).getD .skip
def W:List Nat:=[0,1,2,3,4,10,11,22,1000003]
def res(r:Int×Int×Int):D×List D:=(.tup [.lit (.int .i64 r.1),.lit (.int .i64 r.2.1)],[.box [.lit (.int .i64 r.2.2)]])
def C(x0:List Int)(x1 x2 k3_0:Int)(r:Int×Int×Int):Prop:=Ret env 166 [.sl (x0.map (eI .u32)),.lit (.int .i64 x1),.lit (.int .i64 x2),.box [.lit (.int .i64 k3_0)],.fn 123 []] (res r).1 (res r).2
theorem enter(x0:List Int)(x1 x2 k3_0:Int)(φ:Int×Int×Int->Prop)(h:∃a1,lget x0 x2=some a1/\∃a3,lget x0 x1=some a3/\∃r5:Int,q82_.C a1 a3 r5/\(if r5<0 then φ (x2,x1,(IntKind.wrap .i64 (k3_0+1)))else φ (x1,x2,k3_0))):∃r,φ r/\C x0 x1 x2 k3_0 r:=mEnt (fd:=Tryz.f166) (body:=B) (V:=W) (res:=res)<|mIx 8 (eI .u32) h fun a1 h2 h=>mIx 3 (eI .u32) h fun a3 h4 h=>mCal 1 h (fun _ h=>h) fun r5 _ h=>mAsk 0 h dT dF (fun h=>mRet 16 h) fun h=>mRet 9 h
end q20_
namespace q21_
noncomputable def B:Code:=(Tryz.f165.body).getD .skip
def W:List Nat:=[0,1,2,3,4,5,12,1000004]
def res(r:Int×Int):D×List D:=(.lit (.int .i64 r.1),[.box [.lit (.int .i64 r.2)]])
def C(x0:List Int)(x1 x2:Int)(x3 k4_0:Int)(r:Int×Int):Prop:=Ret env 165 [.sl (x0.map (eI .u32)),.lit (.int .i64 x1),.lit (.int .i64 x2),.lit (.int .i64 x3),.box [.lit (.int .i64 k4_0)],.fn 123 []] (res r).1 (res r).2
theorem enter(x0:List Int)(x1 x2:Int)(x3 k4_0:Int)(φ:Int×Int->Prop)(h:∃r1:Int×Int×Int,q20_.C x0 x1 x2 k4_0 r1/\∃r2:Int×Int×Int,q20_.C x0 r1.2.1 x3 r1.2.2 r2/\∃r3:Int×Int×Int,q20_.C x0 r1.1 r2.1 r2.2.2 r3/\φ (r3.2.1,r3.2.2)):∃r,φ r/\C x0 x1 x2 x3 k4_0 r:=mEnt (fd:=Tryz.f165) (body:=B) (V:=W) (res:=res)<|mCal 9 h (fun _ h=>h) (hf:=(fun _=>Afd)) fun r1 _ h=>mCal 12 h (fun _ h=>h) (hf:=(fun _=>Afd)) fun r2 _ h=>mCal 12 h (fun _ h=>h) (hf:=(fun _=>Afd)) fun r3 _ h=>mRet 10 h
end q21_
namespace q6_
noncomputable def B:Code:=(Tryz.f164.body).getD .skip
def W:List Nat:=[0,1,2,3,8,1000002]
def res(r:Int×Int):D×List D:=(.lit (.int .i64 r.1),[.box [.lit (.int .i64 r.2)]])
def C(x0:List Int)(x1 k2_0:Int)(r:Int×Int):Prop:=Ret env 164 [.sl (x0.map (eI .u32)),.lit (.int .i64 x1),.box [.lit (.int .i64 k2_0)],.fn 123 []] (res r).1 (res r).2
theorem enter(x0:List Int)(x1 k2_0:Int)(φ:Int×Int->Prop)(h:∃r1:Int×Int,q21_.C x0 (IntKind.wrap .i64 (x1-1)) x1 (IntKind.wrap .i64 (x1+1)) k2_0 r1/\φ (r1.1,r1.2)):∃r,φ r/\C x0 x1 k2_0 r:=mEnt (fd:=Tryz.f164) (body:=B) (V:=W) (res:=res)<|mCal 12 h (fun _ h=>h) fun r1 _ h=>mRet 2 h
end q6_
namespace q12_
noncomputable def B:Code:=(Tryz.f152.body).getD .skip
def W:List Nat:=[0,1,2,3,8,9,10,11,12,13,14,34,36,55,57,60]
def res(r:Int×Int):D×List D:=(.tup [.lit (.int .i64 r.1),.lit (.int .i64 r.2)],[])
def C(x0:List Int)(x1 x2:Int)(r:Int×Int):Prop:=Ret env 152 [.sl (x0.map (eI .u32)),.lit (.int .i64 x1),.lit (.int .i64 x2),.fn 123 []] (res r).1 (res r).2
def L1(x0:List Int)(z0 z1:Int)(z2 z3:Int)(φ:Int×Int->Prop):Prop:=Pt env 152 W B [1,1,1,1,1,1,0,1,0,1] [(0,.sl (x0.map (eI .u32))),(3,.fn 123 []),(11,.box [.lit (.int .i64 z0)]),(12,.lit (.int .i64 z1)),(13,.lit (.int .i64 z2)),(14,.lit (.int .i64 z3))] (Lv env 152 Tryz.f152 4 res φ)
def L2(z0 z1:Int)(φ:Int×Int->Prop):Prop:=Pt env 152 W B [1,1,1,1,1,1,1,0] [(11,.box [.lit (.int .i64 z0)]),(13,.lit (.int .i64 z1))] (Lv env 152 Tryz.f152 4 res φ)
theorem L1_step(x0:List Int)(z0 z1:Int)(z2 z3:Int)(φ:Int×Int->Prop)(h:∃r4:Int×Int,q21_.C x0 z1 z2 z3 z0 r4/\L2 r4.2 r4.1 φ):L1 x0 z0 z1 z2 z3 φ:=mIn<|mCal 6 h (fun _ h=>h) fun r4 _ h=>mFin 2 h
theorem L2_step(z0 z1:Int)(φ:Int×Int->Prop)(h:(if z0=0 then φ (z1,1)else(if z0=12 then φ (z1,2)else φ (z1,0)))):L2 z0 z1 φ:=mIn<|mCon 7 h Ab8 Ab7 (fun h=>mRet 5 h) fun h=>mCon 4 h Ab8 Ab7 (fun h=>mRet 5 h) fun h=>mRet 5 h
theorem enter(x0:List Int)(x1 x2:Int)(φ:Int×Int->Prop)(h:(if 8<=(IntKind.wrap .i64 (x2-x1))then(if 50<=(IntKind.wrap .i64 (x2-x1))then ∃r1:Int×Int,q6_.C x0 (IntKind.wrap .i64 (x1+(IntKind.wrap .i64 ((IntKind.wrap .i64 (zG (IntKind.wrap .i64 (x2-x1)) 4))*1)))) 0 r1/\∃r2:Int×Int,q6_.C x0 (IntKind.wrap .i64 (x1+(IntKind.wrap .i64 ((IntKind.wrap .i64 (zG (IntKind.wrap .i64 (x2-x1)) 4))*2)))) r1.2 r2/\∃r3:Int×Int,q6_.C x0 (IntKind.wrap .i64 (x1+(IntKind.wrap .i64 ((IntKind.wrap .i64 (zG (IntKind.wrap .i64 (x2-x1)) 4))*3)))) r2.2 r3/\L1 x0 r3.2 r1.1 r2.1 r3.1 φ else L1 x0 0 (IntKind.wrap .i64 (x1+(IntKind.wrap .i64 ((IntKind.wrap .i64 (zG (IntKind.wrap .i64 (x2-x1)) 4))*1)))) (IntKind.wrap .i64 (x1+(IntKind.wrap .i64 ((IntKind.wrap .i64 (zG (IntKind.wrap .i64 (x2-x1)) 4))*2)))) (IntKind.wrap .i64 (x1+(IntKind.wrap .i64 ((IntKind.wrap .i64 (zG (IntKind.wrap .i64 (x2-x1)) 4))*3)))) φ)else L2 0 (IntKind.wrap .i64 (x1+(IntKind.wrap .i64 ((IntKind.wrap .i64 (zG (IntKind.wrap .i64 (x2-x1)) 4))*2)))) φ)):∃r,φ r/\C x0 x1 x2 r:=mEnt (fd:=Tryz.f152) (body:=B) (V:=W) (res:=res)<|mAsk 39 h dT dF (fun h=>mAsk 4 h dT dF (fun h=>mCal 6 h (fun _ h=>h) fun r1 _ h=>mCal 6 h (fun _ h=>h) fun r2 _ h=>mCal 6 h (fun _ h=>h) fun r3 _ h=>mFin 2 h) fun h=>mFin 3 h) fun h=>mFin 3 h
end q12_
namespace q83_
noncomputable def B:Code:=(Tryz.f158.body).getD .skip
def W:List Nat:=[0,2,4,8,14]
def res(r:Int):D×List D:=(.lit (.int .i64 r),[])
def C(x0 r:Int):Prop:=Ret env 158 [.lit (.int .u64 x0)] (res r).1 (res r).2
def L3(z0 z1:Int)(φ:Int->Prop):Prop:=Pt env 158 W B [1,1,0,0] [(0,.lit (.int .u64 z0)),(2,.lit (.int .i64 z1))] (Lv env 158 Tryz.f158 1 res φ)
def L2(z0 z1:Int)(φ:Int->Prop):Prop:=Pt env 158 W B [1,1,1,0,0] [(0,.lit (.int .u64 z0)),(2,.lit (.int .i64 z1))] (Lv env 158 Tryz.f158 1 res φ)
def L1(z0 z1:Int)(φ:Int->Prop):Prop:=Pt env 158 W B [1,1,1,1,0] [(0,.lit (.int .u64 z0)),(2,.lit (.int .i64 z1))] (Lv env 158 Tryz.f158 1 res φ)
theorem L3_step(z0 z1:Int)(φ:Int->Prop)(h:(if 65536<=z0 then L2 (shrw .u64 z0 16) (IntKind.wrap .i64 (z1+16)) φ else L2 z0 z1 φ)):L3 z0 z1 φ:=mIn<|mAsk 2 h dT dF (fun h=>mFin 12 h) fun h=>mFin 3 h
theorem L2_step(z0 z1:Int)(φ:Int->Prop)(h:(if 256<=z0 then L1 (shrw .u64 z0 8) (IntKind.wrap .i64 (z1+8)) φ else L1 z0 z1 φ)):L2 z0 z1 φ:=mIn<|mAsk 2 h dT dF (fun h=>mFin 12 h) fun h=>mFin 3 h
theorem L1_step(z0 z1:Int)(φ:Int->Prop)(h:∃b1,((0:Int)<=(IntKind.wrap .u8 z0)/\(⟨#[0,1,2,2,3,3,3,3,4,4,4,4,4,4,4,4,5,5,5,5,5,5,5,5,5,5,5,5,5,5,5,5,6,6,6,6,6,6,6,6,6,6,6,6,6,6,6,6,6,6,6,6,6,6,6,6,6,6,6,6,6,6,6,6,7,7,7,7,7,7,7,7,7,7,7,7,7,7,7,7,7,7,7,7,7,7,7,7,7,7,7,7,7,7,7,7,7,7,7,7,7,7,7,7,7,7,7,7,7,7,7,7,7,7,7,7,7,7,7,7,7,7,7,7,7,7,7,7,8,8,8,8,8,8,8,8,8,8,8,8,8,8,8,8,8,8,8,8,8,8,8,8,8,8,8,8,8,8,8,8,8,8,8,8,8,8,8,8,8,8,8,8,8,8,8,8,8,8,8,8,8,8,8,8,8,8,8,8,8,8,8,8,8,8,8,8,8,8,8,8,8,8,8,8,8,8,8,8,8,8,8,8,8,8,8,8,8,8,8,8,8,8,8,8,8,8,8,8,8,8,8,8,8,8,8,8,8,8,8,8,8,8,8,8,8,8,8,8,8,8,8,8,8,8,8,8]⟩:ByteArray)[(IntKind.wrap .u8 z0).toNat]?=some b1)/\φ (IntKind.wrap .i64 (z1+(IntKind.wrap .i64 (u8i b1))))):L1 z0 z1 φ:=mIn<|mSt 4 h fun b1 h=>mRet 4 h
theorem enter(x0:Int)(φ:Int->Prop)(h:(if 4294967296<=x0 then L3 (shrw .u64 x0 32) 32 φ else L3 x0 0 φ)):∃r,φ r/\C x0 r:=mEnt (fd:=Tryz.f158) (body:=B) (V:=W) (res:=res)<|mAsk 5 h dT dF (fun h=>mFin 10 h) fun h=>mFin 3 h
end q83_
namespace q98_
noncomputable def B:Code:=(Tryz.f142.body).getD .skip
def W:List Nat:=[0,2]
def res(r:Int):D×List D:=(.lit (.int .i64 r),[])
def C(x0 r:Int):Prop:=Ret env 142 [.lit (.int .u64 x0)] (res r).1 (res r).2
theorem enter(x0:Int)(φ:Int->Prop)(h:∃r1:Int,q83_.C x0 r1/\φ r1):∃r,φ r/\C x0 r:=mEnt (fd:=Tryz.f142) (body:=B) (V:=W) (res:=res)<|mCal 7 h (fun _ h=>h) fun r1 _ h=>mRet 2 h
end q98_
namespace q32_
noncomputable def B:Code:=(Tryz.f162.body).getD .skip
def W:List Nat:=[0,2]
def res(r:Int):D×List D:=(.lit (.int .u64 r),[])
def C(x0 r:Int):Prop:=Ret env 162 [.lit (.int .i64 x0)] (res r).1 (res r).2
theorem enter(x0:Int)(φ:Int->Prop)(h:∃r1:Int,q98_.C (IntKind.wrap .u64 x0) r1/\0<=r1/\φ (shlw .u64 1 r1)):∃r,φ r/\C x0 r:=mEnt (fd:=Tryz.f162) (body:=B) (V:=W) (res:=res)<|mCal 6 h (fun _ h=>h) fun r1 _ h=>h.elim fun h2 h=>mBi 0 (Alo (t:=172) (q:=.u64) (q':=.i64) (i1:=1) h2)<|mRet 2 h
end q32_
namespace q34_
noncomputable def B:Code:=(Tryz.f163.body).getD .skip
def W:List Nat:=[0,2,1000000]
def res(r:Int×Int):D×List D:=(.lit (.int .u64 r.1),[.box [.lit (.int .u64 r.2)]])
def C(k0_0:Int)(r:Int×Int):Prop:=Ret env 163 [.box [.lit (.int .u64 k0_0)]] (res r).1 (res r).2
theorem enter(k0_0:Int)(φ:Int×Int->Prop)(h:φ ((bXor .u64 (bXor .u64 (bXor .u64 k0_0 (shlw .u64 k0_0 13)) (shrw .u64 (bXor .u64 k0_0 (shlw .u64 k0_0 13)) 7)) (shlw .u64 (bXor .u64 (bXor .u64 k0_0 (shlw .u64 k0_0 13)) (shrw .u64 (bXor .u64 k0_0 (shlw .u64 k0_0 13)) 7)) 17)),(bXor .u64 (bXor .u64 (bXor .u64 k0_0 (shlw .u64 k0_0 13)) (shrw .u64 (bXor .u64 k0_0 (shlw .u64 k0_0 13)) 7)) (shlw .u64 (bXor .u64 (bXor .u64 k0_0 (shlw .u64 k0_0 13)) (shrw .u64 (bXor .u64 k0_0 (shlw .u64 k0_0 13)) 7)) 17)))):∃r,φ r/\C k0_0 r:=mEnt (fd:=Tryz.f163) (body:=B) (V:=W) (res:=res)<|mRet 45 h
end q34_
namespace q8_
noncomputable def B:Code:=(Tryz.f151.body).getD .skip
def W:List Nat:=[0,1,2,3,8,9,10,11,12,17,35,45,1000000]
def res(r:List Int):D×List D:=(.tup [],[.own (r.map (eI .u32))])
def C(x1 x2:Int)(k0_0 r:List Int):Prop:=Ret env 151 [.own (k0_0.map (eI .u32)),.lit (.int .i64 x1),.lit (.int .i64 x2),.fn 123 []] (res r).1 (res r).2
def L1(x1 z0:Int)(z1 r1 z2:Int)(k0_0:List Int)(φ:List Int->Prop):Prop:=Pt env 151 W B [1,1,0,1,1,1,0] [(0,.alias 1000000 []),(1,.lit (.int .i64 x1)),(8,.lit (.int .i64 z0)),(9,.box [.lit (.int .u64 z1)]),(10,.lit (.int .u64 r1)),(11,.lit (.int .i64 z2)),(1000000,.own (k0_0.map (eI .u32)))] (Lv env 151 Tryz.f151 4 res φ)
def L2(x1 z0:Int)(r2:Int×Int)(r1 z1 z2:Int)(k0_0:List Int)(φ:List Int->Prop):Prop:=Pt env 151 W B [1,1,0,1,1,1,0,0,1,0,0,1,1] [(0,.alias 1000000 []),(1,.lit (.int .i64 x1)),(8,.lit (.int .i64 z0)),(9,.box [.lit (.int .u64 r2.2)]),(10,.lit (.int .u64 r1)),(11,.lit (.int .i64 z1)),(12,.lit (.int .i64 z2)),(1000000,.own (k0_0.map (eI .u32)))] (Lv env 151 Tryz.f151 4 res φ)
theorem L1_step(x1 z0:Int)(z1 r1 z2:Int)(k0_0:List Int)(φ:List Int->Prop)(h:(if z2<=(IntKind.wrap .i64 ((IntKind.wrap .i64 (x1+(IntKind.wrap .i64 ((IntKind.wrap .i64 (zG z0 4))*2))))+1))then ∃r2:Int×Int,q34_.C z1 r2/\(if z0<=(IntKind.wrap .i64 (bAnd .u64 r2.1 (IntKind.wrap .u64 (r1-1))))then L2 x1 z0 r2 r1 z2 (IntKind.wrap .i64 ((IntKind.wrap .i64 (bAnd .u64 r2.1 (IntKind.wrap .u64 (r1-1))))-z0)) k0_0 φ else L2 x1 z0 r2 r1 z2 (IntKind.wrap .i64 (bAnd .u64 r2.1 (IntKind.wrap .u64 (r1-1)))) k0_0 φ)else φ k0_0)):L1 x1 z0 z1 r1 z2 k0_0 φ:=mIn<|mAsk 9 h dT dF (fun h=>mCal 4 h (fun _ h=>h) fun r2 _ h=>mAsk 9 h dT dF (fun h=>mFin 8 h) fun h=>mFin 3 h) fun h=>mRet 2 h
theorem L2_step(x1 z0:Int)(r2:Int×Int)(r1 z1 z2:Int)(k0_0:List Int)(φ:List Int->Prop)(h:∃a3,lget k0_0 (IntKind.wrap .i64 (x1+z2))=some a3/\∃a5,lget k0_0 z1=some a5/\∃a7,lget (lset k0_0 z1 a3) (IntKind.wrap .i64 (x1+z2))=some a7/\L1 x1 z0 r2.2 r1 (IntKind.wrap .i64 (z1+1)) (lset (lset k0_0 z1 a3) (IntKind.wrap .i64 (x1+z2)) a5) φ):L2 x1 z0 r2 r1 z1 z2 k0_0 φ:=mIn<|mIy 11 (eI .u32) h fun a3 h4 h=>mLd 0 (eI .u32) h4<|mIy 2 (eI .u32) h fun a5 h6 h=>mLd 0 (eI .u32) h6<|mIyf 0 (eI .u32) h6<|Aet 0 (eI .u32) a3 h6<|mIy 0 (eI .u32) h fun a7 h8 h=>mSto 0 (eI .u32) a5 h8<|mFin 6 h
theorem enter(x1 x2:Int)(k0_0:List Int)(φ:List Int->Prop)(h:(if 8<=(IntKind.wrap .i64 (x2-x1))then ∃r1:Int,q32_.C (IntKind.wrap .i64 (x2-x1)) r1/\L1 x1 (IntKind.wrap .i64 (x2-x1)) (IntKind.wrap .u64 (IntKind.wrap .i64 (x2-x1))) r1 (IntKind.wrap .i64 ((IntKind.wrap .i64 (x1+(IntKind.wrap .i64 ((IntKind.wrap .i64 (zG (IntKind.wrap .i64 (x2-x1)) 4))*2))))-1)) k0_0 φ else φ k0_0)):∃r,φ r/\C x1 x2 k0_0 r:=mEnt (fd:=Tryz.f151) (body:=B) (V:=W) (res:=res)<|mAsk 8 h dT dF (fun h=>mCal 10 h (fun _ h=>h) fun r1 _ h=>mFin 11 h) fun h=>mRet 2 h
end q8_
namespace q19_
noncomputable def B:Code:=(Tryz.f141.body).getD .skip
def W:List Nat:=[0,1,2,3,4,10,11,12,13,14,15,16,17,18,19,20,25,32,39,56,75,80,97,125,1000000]
def res(r:List Int):D×List D:=(.tup [],[.own (r.map (eI .u32))])
def C(x1 x2 x3:Int)(k0_0 r:List Int):Prop:=Ret env 141 [.own (k0_0.map (eI .u32)),.lit (.int .i64 x1),.lit (.int .i64 x2),.lit (.int .i64 x3),.fn 123 []] (res r).1 (res r).2
def L1(x1 x2 x3:Int)(z0 z1:Bool)(k0_0:List Int)(φ:List Int->Prop):Prop:=Pt env 141 W B [1,1,0] [(0,.alias 1000000 []),(1,.lit (.int .i64 x1)),(2,.lit (.int .i64 x2)),(3,.lit (.int .i64 x3)),(4,.fn 123 []),(10,.lit (.bool z0)),(11,.lit (.bool z1)),(1000000,.own (k0_0.map (eI .u32)))] (Lv env 141 Tryz.f141 5 res φ)
def L5(x1 x2 x3:Int)(z0 z1:Bool)(k0_0:List Int)(φ:List Int->Prop):Prop:=Pt env 141 W B [1,1,0,0,0,1,1,1,1,0] [(0,.alias 1000000 []),(1,.lit (.int .i64 x1)),(2,.lit (.int .i64 x2)),(3,.lit (.int .i64 x3)),(4,.fn 123 []),(10,.lit (.bool z0)),(11,.lit (.bool z1)),(12,.lit (.int .i64 (IntKind.wrap .i64 (x2-x1)))),(1000000,.own (k0_0.map (eI .u32)))] (Lv env 141 Tryz.f141 5 res φ)
def L4(x1 x2 x3:Int)(z0 z1:Bool)(z2 z3:Int)(r79:List Int)(φ:List Int->Prop):Prop:=Pt env 141 W B [1,1,0,0,0,1,1,1,1,1,1,0,0] [(0,.alias 1000000 []),(1,.lit (.int .i64 x1)),(2,.lit (.int .i64 x2)),(3,.lit (.int .i64 x3)),(4,.fn 123 []),(10,.lit (.bool z0)),(11,.lit (.bool z1)),(12,.lit (.int .i64 (IntKind.wrap .i64 (x2-x1)))),(13,.lit (.int .i64 z2)),(14,.lit (.int .i64 z3)),(1000000,.own (r79.map (eI .u32)))] (Lv env 141 Tryz.f141 5 res φ)
def L3(x1 x2 x3:Int)(z0 z1:Bool)(z2:Int)(z3:List Int)(φ:List Int->Prop):Prop:=Pt env 141 W B [1,1,0,0,0,1,1,1,1,1,1,1,0,0] [(0,.alias 1000000 []),(1,.lit (.int .i64 x1)),(2,.lit (.int .i64 x2)),(3,.lit (.int .i64 x3)),(4,.fn 123 []),(10,.lit (.bool z0)),(11,.lit (.bool z1)),(12,.lit (.int .i64 (IntKind.wrap .i64 (x2-x1)))),(13,.lit (.int .i64 z2)),(1000000,.own (z3.map (eI .u32)))] (Lv env 141 Tryz.f141 5 res φ)
def L2(x1 x2:Int)(x3 z0:Int)(z1:List Int)(φ:List Int->Prop):Prop:=Pt env 141 W B [1,1,0,0,0,1,1,1,1,1,1,1,1,0] [(0,.alias 1000000 []),(1,.lit (.int .i64 x1)),(2,.lit (.int .i64 x2)),(3,.lit (.int .i64 x3)),(4,.fn 123 []),(12,.lit (.int .i64 (IntKind.wrap .i64 (x2-x1)))),(13,.lit (.int .i64 z0)),(1000000,.own (z1.map (eI .u32)))] (Lv env 141 Tryz.f141 5 res φ)
theorem L1_step(x1 x2 x3:Int)(z0 z1:Bool)(k0_0:List Int)(φ:List Int->Prop)(h:(if(IntKind.wrap .i64 (x2-x1))<=12 then ∃r100:List Int,q7_.C x1 x2 k0_0 r100/\φ r100 else(if x3=0 then ∃r101:List Int,q18_.C x1 x2 k0_0 r101/\φ r101 else(if z0=true then L5 x1 x2 x3 z0 z1 k0_0 φ else ∃r102:List Int,q8_.C x1 x2 k0_0 r102/\L5 x1 x2 (IntKind.wrap .i64 (x3-1)) z0 z1 r102 φ)))):L1 x1 x2 x3 z0 z1 k0_0 φ:=mIn<|mAsk 9 h dT dF (fun h=>mCal 7 h (fun _ h=>h) (hf:=(fun _=>Acg (Ab1 Aa9) (Aa8 (e:=(eI .u32)) (fun _=>rfl)))) fun r100 _ h=>mRet 1 h) fun h=>mAsk 5 h Ab8 Ab7 (fun h=>mCal 7 h (fun _ h=>h) (hf:=(fun _=>Acg (Ab1 Aa9) (Aa8 (e:=(eI .u32)) (fun _=>rfl)))) fun r101 _ h=>mRet 1 h) fun h=>mAsk 4 h id fls (fun h=>mFin 4 h) fun h=>mCal 8 h (fun _ h=>h) (hf:=(fun _=>Acg (Ab1 Aa9) (Aa8 (e:=(eI .u32)) (fun _=>rfl)))) fun r102 _ h=>mFin 6 h
theorem L5_step(x1 x2 x3:Int)(z0 z1:Bool)(k0_0:List Int)(φ:List Int->Prop)(h:∃r103:Int×Int,q12_.C k0_0 x1 x2 r103/\(if r103.2=2 then ∃r104:List Int,q9_.C x1 x2 k0_0 r104/\L4 x1 x2 x3 z0 z1 (IntKind.wrap .i64 ((IntKind.wrap .i64 (x2-1))-(IntKind.wrap .i64 (r103.1-x1)))) 1 r104 φ else L4 x1 x2 x3 z0 z1 r103.1 r103.2 k0_0 φ)):L5 x1 x2 x3 z0 z1 k0_0 φ:=mIn<|mCal 5 h (fun _ h=>h) (hr:=by exact(Ab5 (Aav (s:=1000000) (ps:=[]) (l:=k0_0) (e:=(eI .u32)) (e':=(eI .u32)) (fun _=>rfl) (by kernel_rfl)) (pr_k (pr_k (pr_k Ac7))))) (hf:=(fun _=>Aao (Ab1 (Aa3 rfl (Aa3 rfl Aa9))) rfl)) fun r103 _ h=>mAsk 8 h Ab8 Ab7 (fun h=>mCal 7 h (fun _ h=>h) (hf:=(fun _=>Acg (Ab1 Aa9) (Aa8 (e:=(eI .u32)) (fun _=>rfl)))) fun r104 _ h=>mFin 13 h) fun h=>mFin 3 h
theorem L4_step(x1 x2 x3:Int)(z0 z1:Bool)(z2 z3:Int)(r79:List Int)(φ:List Int->Prop)(h:(if z0=true then(if z1=true then(if z3=1 then ∃r105:Bool×List Int,q1_.C x1 x2 r79 r105/\(if r105.1=true then φ r105.2 else L3 x1 x2 x3 z0 z1 z2 r105.2 φ)else L3 x1 x2 x3 z0 z1 z2 r79 φ)else L3 x1 x2 x3 z0 z1 z2 r79 φ)else L3 x1 x2 x3 z0 z1 z2 r79 φ)):L4 x1 x2 x3 z0 z1 z2 z3 r79 φ:=mIn<|mAsk 1 h id fls (fun h=>mAsk 1 h id fls (fun h=>mAsk 3 h Ab8 Ab7 (fun h=>mCal 8 h (fun _ h=>h) (hf:=(fun _=>Acg rfl (Aa8 (e:=(eI .u32)) (fun _=>rfl)))) fun r105 _ h=>mCon 1 h id fls (fun h=>mRet 0 h) fun h=>mFin 1 h) fun h=>mFin 4 h) fun h=>mFin 8 h) fun h=>mFin 10 h
theorem L3_step(x1 x2 x3:Int)(z0 z1:Bool)(z2:Int)(z3:List Int)(φ:List Int->Prop)(h:(if 0<x1 then ∃a106,lget z3 (IntKind.wrap .i64 (x1-1))=some a106/\∃a108,lget z3 z2=some a108/\∃r110:Int,q82_.C a106 a108 r110/\(if r110<0 then L2 x1 x2 x3 z2 z3 φ else ∃r111:Int×List Int,q5_.C x1 x2 z2 z3 r111/\L1 r111.1 x2 x3 z0 z1 r111.2 φ)else L2 x1 x2 x3 z2 z3 φ)):L3 x1 x2 x3 z0 z1 z2 z3 φ:=mIn<|mAsk 2 h dT dF (fun h=>mIy 5 (eI .u32) h fun a106 h107 h=>mLd 0 (eI .u32) h107<|mIy 2 (eI .u32) h fun a108 h109 h=>mLd 0 (eI .u32) h109<|mCal 0 h (fun _ h=>h) fun r110 _ h=>mAsk 0 h dT dF (fun h=>mFin 5 h) fun h=>mCal 10 h (fun _ h=>h) (hf:=(fun _=>Acg rfl (Aa8 (e:=(eI .u32)) (fun _=>rfl)))) fun r111 _ h=>mFin 7 h) fun h=>mFin 18 h
theorem L2_step(x1 x2:Int)(x3 z0:Int)(z1:List Int)(φ:List Int->Prop)(h:∃r112:Int×Bool×List Int,q14_.C x1 x2 z0 z1 r112/\(if(IntKind.wrap .i64 (r112.1-x1))<(IntKind.wrap .i64 (x2-r112.1))then ∃r113:List Int,q19_.C x1 r112.1 x3 r112.2.2 r113/\L1 (IntKind.wrap .i64 (r112.1+1)) x2 x3 (decide ((IntKind.wrap .i64 (zG (IntKind.wrap .i64 (x2-x1)) 8))<=(IntKind.wrap .i64 (r112.1-x1)))) r112.2.1 r113 φ else ∃r114:List Int,q19_.C (IntKind.wrap .i64 (r112.1+1)) x2 x3 r112.2.2 r114/\L1 x1 r112.1 x3 (decide ((IntKind.wrap .i64 (zG (IntKind.wrap .i64 (x2-x1)) 8))<=(IntKind.wrap .i64 (x2-r112.1)))) r112.2.1 r114 φ)):L2 x1 x2 x3 z0 z1 φ:=mIn<|mCal 6 h (fun _ h=>h) (hf:=(fun _=>Acg (Ab1 (Aa3 rfl (Aa3 rfl Aa9))) (Aa8 (e:=(eI .u32)) (fun _=>rfl)))) fun r112 _ h=>mAsk 28 h dT dF (fun h=>mCal 14 h (fun _ h=>h) (hf:=(fun _=>Acg (Ab1 Aa9) (Aa8 (e:=(eI .u32)) (fun _=>rfl)))) fun r113 _ h=>mFin 6 h) fun h=>mCal 15 h (fun _ h=>h) (hf:=(fun _=>Acg (Ab1 Aa9) (Aa8 (e:=(eI .u32)) (fun _=>rfl)))) fun r114 _ h=>mFin 5 h
theorem enter(x1 x2 x3:Int)(k0_0:List Int)(φ:List Int->Prop)(h:L1 x1 x2 x3 true true k0_0 φ):∃r,φ r/\C x1 x2 x3 k0_0 r:=mEnt (fd:=Tryz.f141) (body:=B) (V:=W) (res:=res)<|mFin 6 h
end q19_
namespace q13_
noncomputable def B:Code:=(Tryz.f122.body).getD .skip
def W:List Nat:=[0,1,4,1000000]
def res(r:List Int):D×List D:=(.tup [],[.own (r.map (eI .u32))])
def C(k0_0 r:List Int):Prop:=Ret env 122 [.own (k0_0.map (eI .u32)),.fn 123 []] (res r).1 (res r).2
theorem enter(k0_0:List Int)(φ:List Int->Prop)(h:∃r1:Int,q98_.C (IntKind.wrap .u64 (k0_0.length:Int)) r1/\∃r2:List Int,q19_.C 0 (k0_0.length:Int) r1 k0_0 r2/\φ r2):∃r,φ r/\C k0_0 r:=mEnt (fd:=Tryz.f122) (body:=B) (V:=W) (res:=res)<|mLen 2 (eI .u32) k0_0<|mCal 7 h (fun _ h=>h) fun r1 _ h=>mCal 1 h (fun _ h=>h) (hf:=(fun _=>Acg (Ab1 Aa9) (Aa8 (e:=(eI .u32)) (fun _=>rfl)))) fun r2 _ h=>mRet 0 h
end q13_
namespace q22_
noncomputable def B:Code:=(Tryz.f124.body).getD .skip
def W:List Nat:=[0,2,3,4,5,8,13,25,32,44]
def res(r:(List Int×Bool)):D×List D:=((sown (r.1.map (eI .u32)) r.2),[])
def C(k0_0:List Int)(r:(List Int×Bool)):Prop:=Ret env 124 [.own (k0_0.map (eI .u32))] (res r).1 (res r).2
def L1(k0_0:List Int)(z0:Int)(φ:(List Int×Bool)->Prop):Prop:=Pt env 124 W B [1,1,0,1,0] [(0,.own (k0_0.map (eI .u32))),(3,.lit (.int .i64 z0))] (Lv env 124 Tryz.f124 1 res φ)
def L2(k0_0:List Int)(z0:Int)(y4_o_L2 y4_n_L2:Nat)(z1:Int)(φ:(List Int×Bool)->Prop):Prop:=Pt env 124 W B [1,1,0,1,0,0,1,0,0,1,0,1,0,1,0] [(0,.own (k0_0.map (eI .u32))),(3,.lit (.int .i64 z0)),(4,.sub 0 [] y4_o_L2 y4_n_L2),(5,.lit (.int .i64 z1))] (Lv env 124 Tryz.f124 1 res φ)
def L3(z0:List Int)(z1:Int)(y4_o_L2 y4_n_L2:Nat)(z2:Int)(φ:(List Int×Bool)->Prop):Prop:=Pt env 124 W B [1,1,0,1,0,0,1,0,0,1,0,1,0,1,0,0,1,1] [(0,.own (z0.map (eI .u32))),(3,.lit (.int .i64 z1)),(4,.sub 0 [] y4_o_L2 y4_n_L2),(5,.lit (.int .i64 z2))] (Lv env 124 Tryz.f124 1 res φ)
theorem L1_step(k0_0:List Int)(z0:Int)(φ:(List Int×Bool)->Prop)(h:(if z0<(k0_0.length:Int)then ∃a1,lget k0_0 z0=some a1/\∃a3,lget k0_0 (IntKind.wrap .i64 (z0-1))=some a3/\(if a1=a3 then 0<=z0/\(z0.toNat<=k0_0.length/\k0_0.length<=k0_0.length)/\L2 k0_0 z0 z0.toNat (k0_0.length-z0.toNat) 1 φ else L1 k0_0 (IntKind.wrap .i64 (z0+1)) φ)else φ (⟨k0_0,true⟩))):L1 k0_0 z0 φ:=mIn<|mLen 4 (eI .u32) k0_0<|mAsk 0 h dT dF (fun h=>mIy 6 (eI .u32) h fun a1 h2 h=>mLd 0 (eI .u32) h2<|mIy 3 (eI .u32) h fun a3 h4 h=>mLd 0 (eI .u32) h4<|mAsk 0 h Ab8 Ab7 (fun h=>h.elim fun h5 h=>h.elim fun h6 h=>mVl 5 (Akg (s:=0) (ps:=[]) (t:=71) (x:=(.tmp 26)) (lo:=(some (.tmp 27))) (hi:=none) (lo':=some z0.toNat) (hi':=none) (e:=(eI .u32)) (l:=k0_0) (et:=34) (k:=1) (by kernel_rfl) (by kernel_rfl) (Ag0 (by kernel_rfl)) (Ae7 (i:=z0) (q:=.i64) (by kernel_rfl) h5) Af5 (by kernel_rfl) (by kernel_rfl) (fun _=>rfl) (by kernel_rfl) h6.1 h6.2)<|mFin 5 h) fun h=>mFin 8 h) fun h=>mRet 7 h
theorem L2_step(k0_0:List Int)(z0:Int)(y4_o_L2 y4_n_L2:Nat)(z1:Int)(φ:(List Int×Bool)->Prop)(h:y4_o_L2+y4_n_L2<=k0_0.length/\(if z1<((zI y4_n_L2 (List.drop y4_o_L2 k0_0)).length:Int)then ∃a10,lget k0_0 ((y4_o_L2:Int)+z1)=some a10/\(0<=z1/\z1<((y4_n_L2:Nat):Int))/\y4_o_L2+y4_n_L2<=k0_0.length/\∃a14,lget k0_0 ((y4_o_L2:Int)+(IntKind.wrap .i64 (z1-1)))=some a14/\(0<=(IntKind.wrap .i64 (z1-1))/\(IntKind.wrap .i64 (z1-1))<((y4_n_L2:Nat):Int))/\y4_o_L2+y4_n_L2<=k0_0.length/\(if a10=a14 then L3 k0_0 z0 y4_o_L2 y4_n_L2 z1 φ else(0<=z1/\z1<((y4_n_L2:Nat):Int))/\y4_o_L2+y4_n_L2<=k0_0.length/\∃a18,lget k0_0 z0=some a18/\L3 (lset k0_0 z0 a10) (IntKind.wrap .i64 (z0+1)) y4_o_L2 y4_n_L2 z1 φ)else 0<=z0/\(z0.toNat<=k0_0.length/\k0_0.length<=k0_0.length)/\z0.toNat+(k0_0.length-z0.toNat)<=k0_0.length/\0<=z0/\z0.toNat+(k0_0.length-z0.toNat)<=k0_0.length/\z0.toNat<=k0_0.length/\(z0.toNat+(k0_0.length-z0.toNat)<=k0_0.length/\z0.toNat<=k0_0.length/\z0.toNat<=z0.toNat)/\φ (⟨(zI z0.toNat k0_0),(!((zI z0.toNat k0_0).isEmpty))⟩))):L2 k0_0 z0 y4_o_L2 y4_n_L2 z1 φ:=mIn<|h.elim fun h7 h=>mVl 4 (Bb1 (x:=(.tmp 30)) (t:=71) (et:=34) (d:=.sub 0 [] y4_o_L2 y4_n_L2) (e:=(eI .u32)) (l:=(zI y4_n_L2 (List.drop y4_o_L2 k0_0))) (by kernel_rfl) (by kernel_rfl) (Awb (s:=0) (ps:=[]) (l:=k0_0) (e:=(eI .u32)) (by kernel_rfl) h7) (by kernel_rfl))<|mAsk 0 h dT dF (fun h=>h.elim fun a10 h=>h.elim fun h11 h=>h.elim fun h9 h=>h.elim fun h8 h=>mVl 6 (Aj9 (s:=0) (ps:=[]) (off:=y4_o_L2) (len:=y4_n_L2) (t:=71) (x:=(.tmp 35)) (ix:=(.tmp 36)) (et:=34) (k:=1) (e:=(eI .u32)) (l:=k0_0) (i:=z1) (q:=.i64) (a:=a10) (by kernel_rfl) (by kernel_rfl) (by kernel_rfl) (by kernel_rfl) (by kernel_rfl) (by kernel_rfl) h8 h9 h11 (by kernel_rfl)) <|
 mLd 0 (eI .u32) h11<|h.elim fun a14 h=>h.elim fun h15 h=>h.elim fun h13 h=>h.elim fun h12 h=>mVl 3 (Aj9 (s:=0) (ps:=[]) (off:=y4_o_L2) (len:=y4_n_L2) (t:=71) (x:=(.tmp 39)) (ix:=(.tmp 41)) (et:=34) (k:=1) (e:=(eI .u32)) (l:=k0_0) (i:=(IntKind.wrap .i64 (z1-1))) (q:=.i64) (a:=a14) (by kernel_rfl) (by kernel_rfl) (by kernel_rfl) (by kernel_rfl) (by kernel_rfl) (by kernel_rfl) h12 h13 h15 (by kernel_rfl))<|mLd 0 (eI .u32) h15<|Abs 0 h Aby Abx (fun h=>h.elim fun h17 h=>h.elim fun h16 h=>mVl 7 (Aj9 (s:=0) (ps:=[]) (off:=y4_o_L2) (len:=y4_n_L2) (t:=71) (x:=(.tmp 47)) (ix:=(.tmp 48)) (et:=34) (k:=1) (e:=(eI .u32)) (l:=k0_0) (i:=z1) (q:=.i64) (a:=a10) (by kernel_rfl) (by kernel_rfl) (by kernel_rfl) (by kernel_rfl) (by kernel_rfl) (by kernel_rfl) h16 h17 h11 (by kernel_rfl))<|mLd 0 (eI .u32) h11<|mIy 0 (eI .u32) h fun a18 h19 h=>mSto 0 (eI .u32) a10 h19<|mFin 6 h) fun h=>mFin 3 h) fun h=>h.elim fun h20 h=>h.elim fun h21 h=>mVl 6 (Akg (s:=0) (ps:=[]) (t:=71) (x:=(.tmp 54)) (lo:=(some (.tmp 55))) (hi:=none) (lo':=some z0.toNat) (hi':=none) (e:=(eI .u32)) (l:=k0_0) (et:=34) (k:=1) (by kernel_rfl) (by kernel_rfl) (Ag0 (by kernel_rfl)) (Ae7 (i:=z0) (q:=.i64) (by kernel_rfl) h20) Af5 (by kernel_rfl) (by kernel_rfl) (fun _=>rfl) (by kernel_rfl) h21.1 h21.2)<|h.elim fun h22 h=>mOp 0 (Ayo (t:=71) (x:=(.tmp 56)) (s:=0) (ps:=[]) (off:=z0.toNat) (len:=(k0_0.length-z0.toNat)) (l:=k0_0) (e:=(eI .u32)) (et:=34) (z:=.lit (.int .u32 0)) (k:=1) (by kernel_rfl) (by kernel_rfl) (by kernel_rfl) (by kernel_rfl) (by kernel_rfl) (by kernel_rfl) (by kernel_rfl) (by kernel_rfl) (fun _=>rfl) h22 (by kernel_rfl)) <|
 h.elim fun h23 h=>h.elim fun h24 h=>h.elim fun h25 h=>mVl 4 (Anp (t:=71) (x:=(.tmp 57)) (hi:=(some (.tmp 58))) (hi':=z0.toNat) (e:=(eI .u32)) (l:=k0_0) (off:=z0.toNat) (len:=(k0_0.length-z0.toNat)) (z:=.lit (.int .u32 0)) (et:=34) (k:=1) (s:=0) (ps:=[]) (by kernel_rfl) (by kernel_rfl) (by kernel_rfl) (Ae7 (i:=z0) (q:=.i64) (by kernel_rfl) h23) (by kernel_rfl) (by kernel_rfl) (fun _=>rfl) (by kernel_rfl) (by kernel_rfl) h24 h25)<|h.elim fun h26 h=>mRet 2 h (hl:=(Avn (t:=2) (s:=0) (n:=z0.toNat) (m:=(zI z0.toNat k0_0)) (e:=(eI .u32)) (es:=clr (eI .u32) k0_0 z0.toNat (k0_0.length-z0.toNat) (.lit (.int .u32 0))) (by kernel_rfl) (by kernel_rfl) (by kernel_rfl) (by rw[Atm (by first|exact h26.1|omega)];exact h26.2.1) (Axi h26.1 h26.2.2) (by kernel_rfl)))
theorem L3_step(z0:List Int)(z1:Int)(y4_o_L2 y4_n_L2:Nat)(z2:Int)(φ:(List Int×Bool)->Prop)(h:L2 z0 z1 y4_o_L2 y4_n_L2 (IntKind.wrap .i64 (z2+1)) φ):L3 z0 z1 y4_o_L2 y4_n_L2 z2 φ:=mIn<|mFin 5 h
theorem enter(k0_0:List Int)(φ:(List Int×Bool)->Prop)(h:(if(k0_0.length:Int)<2 then φ (⟨k0_0,true⟩)else L1 k0_0 1 φ)):∃r,φ r/\C k0_0 r:=mEnt (fd:=Tryz.f124) (body:=B) (V:=W) (res:=res)<|mLen 5 (eI .u32) k0_0<|mAsk 0 h dT dF (fun h=>mRet 6 h) fun h=>mFin 6 h
end q22_
namespace q99_
noncomputable def B:Code:=(Tryz.f94.body).getD .skip
def W:List Nat:=[0,2,3]
def res(r:List Int):D×List D:=(.sl (r.map (eI .u32)),[])
def C(x0 r:List Int):Prop:=Ret env 94 [.sl (x0.map (eI .u32))] (res r).1 (res r).2
theorem enter(x0:List Int)(φ:List Int->Prop)(h:x0.length*4<=140737488355328/\∃r2:List Int,q13_.C x0 r2/\∃r3:(List Int×Bool),q22_.C r2 r3/\φ r3.1):∃r,φ r/\C x0 r:=mEnt (fd:=Tryz.f94) (body:=B) (V:=W) (res:=res)<|h.elim fun h1 h=>Aws 5 (show Ret env 73 [.sl (x0.map (eI .u32))] (.own (x0.map (eI .u32))) []from Aoq (k:=1) (b:=4) (e:=(eI .u32)) (l:=x0) (by kernel_rfl) (fun _=>rfl) h1) (hf:=(Aao (Aa8 (e:=(eI .u32)) (fun _=>rfl)) rfl))<|mCal 4 h (fun _ h=>h) (hf:=(fun _=>Acg (Ab1 Aa9) (Aa8 (e:=(eI .u32)) (fun _=>rfl)))) fun r2 _ h=>Awr 3 h (fun _ h=>h) (fun(r3:(List Int×Bool))=>Auy (l:=r3.1) (e:=(eI .u32)) rfl (fun _=>rfl)) (hf:=(fun _=>Bdb (Bdn (e:=(eI .u32)) (fun _=>rfl)) rfl)) fun r3 _ h=>mRet 2 h
end q99_
namespace q84_
noncomputable def B:Code:=(Tryz.f50.body).getD .skip
def W:List Nat:=[0,2,3,4,7,12]
def res(r:List Int):D×List D:=(.sl (r.map (eI .u32)),[])
def C(x0:Int)(r:List Int):Prop:=Ret env 50 [.lit (.int .u32 x0)] (res r).1 (res r).2
def L1(x0:Int)(z0:List Int)(z1:Int)(φ:List Int->Prop):Prop:=Pt env 50 W B [1,1,1,0,1,0] [(0,.lit (.int .u32 x0)),(3,.own (z0.map (eI .u32))),(4,.lit (.int .u32 z1))] (Lv env 50 Tryz.f50 1 res φ)
theorem L1_step(x0:Int)(z0:List Int)(z1:Int)(φ:List Int->Prop)(h:(if z1=0 then ∃r3:List Int,q99_.C z0 r3/\φ r3 else(z0.length+1)*4<=140737488355328/\L1 x0 (z0++[(bAnd .u32 (IntKind.wrap .u32 (z1-1)) x0)]) (bAnd .u32 (IntKind.wrap .u32 (z1-1)) x0) φ)):L1 x0 z0 z1 φ:=mIn<|Abs 3 h Aby Abx (fun h=>mApp 14 (eI .u32) z0 ([(bAnd .u32 (IntKind.wrap .u32 (z1-1)) x0)]) h fun h=>mFin 2 h) fun h=>mXit 2 [(3,.sl (z0.map (eI .u32)))] (Aqm (F0:=[(3,.own (z0.map (eI .u32)))]) (l:=z0) (e:=(eI .u32)) (e':=(eI .u32)) (s:=3) (by kernel_rfl) (by kernel_rfl) (by kernel_rfl) (fun _=>rfl) (by kernel_rfl) (by kernel_rfl))<|mCal 2 h (fun _ h=>h) (hf:=(fun _=>Afd)) fun r3 _ h=>mRet 2 h
theorem enter(x0:Int)(φ:List Int->Prop)(h:∃r1:Int,q107_.C x0 r1/\(if 12<r1 then φ ([])else L1 x0 ([x0]) x0 φ)):∃r,φ r/\C x0 r:=mEnt (fd:=Tryz.f50) (body:=B) (V:=W) (res:=res)<|mCal 5 h (fun _ h=>h) fun r1 _ h=>mAsk 0 h dT dF (fun h=>mRet 5 h) fun h=>mFin 12 h
end q84_
namespace q100_
end q100_
namespace q68_
end q68_
namespace q120_
noncomputable def B:Code:=(Tryz.f90.body).getD .skip
def W:List Nat:=[0,1,2,4,5,7,8,9,11,12,13,14]
def res(r:ByteArray):D×List D:=(.lit (.string r),[])
def C(x0:api_Row)(x1:Int)(r:ByteArray):Prop:=Ret env 90 [.agg [.lit (.int .i64 x0.ID),.sl (x0.Values.map Aa2)],.lit (.int .u32 x1)] (res r).1 (res r).2
def L1(x0:api_Row)(z0:ByteArray)(r1:List Int)(z1:Int)(φ:ByteArray->Prop):Prop:=Pt env 90 W B [1,1,0,1,0] [(0,.agg [.lit (.int .i64 x0.ID),.sl (x0.Values.map Aa2)]),(2,.box [.lit (.int .i64 x0.ID),.sl (x0.Values.map Aa2)]),(5,.lit (.string z0)),(11,.own (r1.map (eI .i64))),(12,.lit (.int .i64 (r1.length:Int))),(13,.lit (.int .i64 z1))] (Lv env 90 Tryz.f90 2 res φ)
theorem L1_step(x0:api_Row)(z0:ByteArray)(r1:List Int)(z1:Int)(φ:ByteArray->Prop)(h:(if z1<(r1.length:Int)then ∃a2,lget r1 z1=some a2/\∃a4,lget x0.Values a2=some a4/\∃r6:ByteArray×Int,q119_.C a4 r6/\(z0).size+(r6.1).size<=9223372036854775807/\L1 x0 (z0++r6.1) r1 (IntKind.wrap .i64 (z1+1)) φ else φ z0)):L1 x0 z0 r1 z1 φ:=mIn<|mAsk 2 h dT dF (fun h=>mIy 4 (eI .i64) h fun a2 h3 h=>mLd 0 (eI .i64) h3<|mIx 6 Aa2 h fun a4 h5 h=>mCal 1 h (fun _ h=>h) (hf:=(fun _=>Aao (Ab1 (Aa3 rfl (Aa3 rfl Aa9))) rfl)) fun r6 _ h=>h.elim fun h7 h=>mBi 9 (Bhd (t:=9) h7)<|mFin 6 h) fun h=>mRet 7 h
theorem enter(x0:api_Row)(x1:Int)(φ:ByteArray->Prop)(h:∃r1:List Int,q76_.C x1 r1/\L1 x0 (⟨#[]⟩:ByteArray) r1 0 φ):∃r,φ r/\C x0 x1 r:=mEnt (fd:=Tryz.f90) (body:=B) (V:=W) (res:=res)<|mCal 9 h (fun _ h=>h) (hf:=(fun _=>Aao (Aa8 (e:=(eI .i64)) (fun _=>rfl)) rfl)) fun r1 _ h=>mLen 0 (eI .i64) r1<|mFin 2 h
end q120_
namespace q115_
def res(r:Bool×Int):D×List D:=(.tup [.lit (.bool r.1),.lit (.int .i64 r.2)],[])
def C(x0:api_Table)(x1:api_MVD)(r:Bool×Int):Prop:=Ret env 45 [.agg [.lit (.string x0.Name),.sl (x0.Attrs.map eS),.sl (x0.Rows.map Aa0)],.agg [.lit (.int .u32 x1.Lhs),.lit (.int .u32 x1.Rhs)]] (res r).1 (res r).2
end q115_
namespace q33_
noncomputable def B:Code:=(Tryz.f115.body).getD .skip
def W:List Nat:=[0,1,2,4]
def res(r:Bool):D×List D:=(.lit (.bool r),[])
def C(x0:Int)(k1_0 k2_0:List Int)(r:Bool):Prop:=Ret env 115 [.lit (.int .i64 x0),.ref [.sl (k1_0.map (eI .i64))],.ref [.sl (k2_0.map (eI .i64))]] (res r).1 (res r).2
theorem enter(x0:Int)(k1_0 k2_0:List Int)(φ:Bool->Prop)(h:∃a1,lget k1_0 x0=some a1/\∃a3,lget k2_0 0=some a3/\∃a5,lget k1_0 a3=some a5/\φ (a1 != a5)):∃r,φ r/\C x0 k1_0 k2_0 r:=mEnt (fd:=Tryz.f115) (body:=B) (V:=W) (res:=res)<|mIx 6 (eI .i64) h fun a1 h2 h=>mIx 3 (eI .i64) h fun a3 h4 h=>mIx 1 (eI .i64) h fun a5 h6 h=>mRet 4 h
end q33_
namespace q15_
noncomputable def B:Code:=(Tryz.f136.body).getD .skip
def W:List Nat:=[0,1,4,5,7,8,9,16]
def res(r:Int):D×List D:=(.lit (.int .i64 r),[])
def C(x0 k1_0 k1_1:List Int)(r:Int):Prop:=Ret env 136 [.sl (x0.map (eI .i64)),.fn 115 [.ref [.sl (k1_0.map (eI .i64))],.ref [.sl (k1_1.map (eI .i64))]]] (res r).1 (res r).2
def L1(x0 k1_0 k1_1:List Int)(z0:Int)(φ:Int->Prop):Prop:=Pt env 136 W B [1,0,1,0] [(0,.sl (x0.map (eI .i64))),(1,.fn 115 [.ref [.sl (k1_0.map (eI .i64))],.ref [.sl (k1_1.map (eI .i64))]]),(7,.lit (.int .i64 (x0.length:Int))),(8,.lit (.int .i64 z0))] (Lv env 136 Tryz.f136 2 res φ)
theorem L1_step(x0 k1_0 k1_1:List Int)(z0:Int)(φ:Int->Prop)(h:(if z0<(x0.length:Int)then ∃a1,lget x0 z0=some a1/\∃r3:Bool,q33_.C a1 k1_0 k1_1 r3/\(if r3=true then φ z0 else L1 x0 k1_0 k1_1 (IntKind.wrap .i64 (z0+1)) φ)else φ (-1))):L1 x0 k1_0 k1_1 z0 φ:=mIn<|mAsk 2 h dT dF (fun h=>mIx 11 (eI .i64) h fun a1 h2 h=>Aaw 1 h (fun _ h=>h) (fun _ h=>mRet 6 h) fun _ h=>mFin 7 h) fun h=>mRet 6 h
theorem enter(x0 k1_0 k1_1:List Int)(φ:Int->Prop)(h:L1 x0 k1_0 k1_1 0 φ):∃r,φ r/\C x0 k1_0 k1_1 r:=mEnt (fd:=Tryz.f136) (body:=B) (V:=W) (res:=res)<|mLen 5 (eI .i64) x0<|mFin 2 h
end q15_
namespace q10_
noncomputable def B:Code:=(Tryz.f114.body).getD .skip
def W:List Nat:=[0,1,4]
def res(r:Bool):D×List D:=(.lit (.bool r),[])
def C(x0 k1_0 k1_1:List Int)(r:Bool):Prop:=Ret env 114 [.sl (x0.map (eI .i64)),.fn 115 [.ref [.sl (k1_0.map (eI .i64))],.ref [.sl (k1_1.map (eI .i64))]]] (res r).1 (res r).2
theorem enter(x0 k1_0 k1_1:List Int)(φ:Bool->Prop)(h:∃r1:Int,q15_.C x0 k1_0 k1_1 r1/\φ (decide (0<=r1))):∃r,φ r/\C x0 k1_0 k1_1 r:=mEnt (fd:=Tryz.f114) (body:=B) (V:=W) (res:=res)<|mCal 6 h (fun _ h=>h) fun r1 _ h=>mRet 3 h
end q10_
namespace q40_
noncomputable def B:Code:=(Tryz.f113.body).getD .skip
def W:List Nat:=[0,1,2,3]
def res(r:Bool):D×List D:=(.lit (.bool r),[])
def C(x0 k1_0:List Int)(r:Bool):Prop:=Ret env 113 [.sl (x0.map (eI .i64)),.ref [.sl (k1_0.map (eI .i64))]] (res r).1 (res r).2
theorem enter(x0 k1_0:List Int)(φ:Bool->Prop)(h:∃r1:Bool,q10_.C x0 k1_0 x0 r1/\φ r1):∃r,φ r/\C x0 k1_0 r:=mEnt (fd:=Tryz.f113) (body:=B) (V:=W) (res:=res)<|mCal 7 h (fun _ h=>h) fun r1 _ h=>mRet 2 h
end q40_
namespace q16_
noncomputable def B:Code:=(Tryz.f135.body).getD .skip
def W:List Nat:=[0,1,4,5,7,8,9,16]
def res(r:Int):D×List D:=(.lit (.int .i64 r),[])
def C(x0:List (List Int))(k1_0:List Int)(r:Int):Prop:=Ret env 135 [.sl (x0.map (eSl (eI .i64))),.fn 113 [.ref [.sl (k1_0.map (eI .i64))]]] (res r).1 (res r).2
def L1(x0:List (List Int))(k1_0:List Int)(z0:Int)(φ:Int->Prop):Prop:=Pt env 135 W B [1,0,1,0] [(0,.sl (x0.map (eSl (eI .i64)))),(1,.fn 113 [.ref [.sl (k1_0.map (eI .i64))]]),(7,.lit (.int .i64 (x0.length:Int))),(8,.lit (.int .i64 z0))] (Lv env 135 Tryz.f135 2 res φ)
theorem L1_step(x0:List (List Int))(k1_0:List Int)(z0:Int)(φ:Int->Prop)(h:(if z0<(x0.length:Int)then ∃a1,lget x0 z0=some a1/\∃r3:Bool,q40_.C a1 k1_0 r3/\(if r3=true then φ z0 else L1 x0 k1_0 (IntKind.wrap .i64 (z0+1)) φ)else φ (-1))):L1 x0 k1_0 z0 φ:=mIn<|mAsk 2 h dT dF (fun h=>mIx 11 (eSl (eI .i64)) h fun a1 h2 h=>Aaw 1 h (fun _ h=>h) (fun _ h=>mRet 6 h) fun _ h=>mFin 7 h) fun h=>mRet 6 h
theorem enter(x0:List (List Int))(k1_0:List Int)(φ:Int->Prop)(h:L1 x0 k1_0 0 φ):∃r,φ r/\C x0 k1_0 r:=mEnt (fd:=Tryz.f135) (body:=B) (V:=W) (res:=res)<|mLen 5 (eSl (eI .i64)) x0<|mFin 2 h
end q16_
namespace q11_
noncomputable def B:Code:=(Tryz.f112.body).getD .skip
def W:List Nat:=[0,1,4]
def res(r:Bool):D×List D:=(.lit (.bool r),[])
def C(x0:List (List Int))(k1_0:List Int)(r:Bool):Prop:=Ret env 112 [.sl (x0.map (eSl (eI .i64))),.fn 113 [.ref [.sl (k1_0.map (eI .i64))]]] (res r).1 (res r).2
theorem enter(x0:List (List Int))(k1_0:List Int)(φ:Bool->Prop)(h:∃r1:Int,q16_.C x0 k1_0 r1/\φ (decide (0<=r1))):∃r,φ r/\C x0 k1_0 r:=mEnt (fd:=Tryz.f112) (body:=B) (V:=W) (res:=res)<|mCal 6 h (fun _ h=>h) fun r1 _ h=>mRet 3 h
end q11_
namespace q52_
noncomputable def B:Code:=(Tryz.f88.body).getD .skip
def W:List Nat:=[0,1,2,3,4,5,9]
def res(r:Bool):D×List D:=(.lit (.bool r),[])
def C(x0 x1:api_Partition)(r:Bool):Prop:=Ret env 88 [.agg [.lit (.int .i64 x0.Rows),.sl (x0.Classes.map (eSl (eI .i64)))],.agg [.lit (.int .i64 x1.Rows),.sl (x1.Classes.map (eSl (eI .i64)))]] (res r).1 (res r).2
theorem enter(x0 x1:api_Partition)(φ:Bool->Prop)(h:∃r1:Int,q93_.C x0 x1 r1/\(if r1=0 then ∃r2:List Int,q66_.C x1 r2/\∃r3:Bool,q11_.C x0.Classes r2 r3/\φ (not r3)else φ false)):∃r,φ r/\C x0 x1 r:=mEnt (fd:=Tryz.f88) (body:=B) (V:=W) (res:=res)<|mCal 8 h (fun _ h=>h) fun r1 _ h=>Abs 0 h Aby Abx (fun h=>mRet 5 h) fun h=>mCal 5 h (fun _ h=>h) (hf:=(fun _=>Aao (Aa8 (e:=(eI .i64)) (fun _=>rfl)) rfl)) fun r2 _ h=>mCal 7 h (fun _ h=>h) (hr:=by exact(pr_k (Ab5 (Bjx (Aax (Bgs (s:=5) (ps:=[]) (by kernel_rfl) (Aat (Abi (e:=(eI .i64)) (e':=(eI .i64)) (fun _=>rfl) r2) Adg)) Aem)) Ac7))) fun r3 _ h=>mRet 3 h
end q52_
end Go.Own
namespace Go.Own
theorem Bfe{a b:api_Partition}(h:Akn a b=0):Acp a=true/\Acp b=true/\a.Rows=b.Rows:=by
 unfold Akn at h
 split at h
 .split at h
  .split at h
   .exact ⟨by assumption,by assumption,by assumption⟩
   .omega
  .omega
 .omega
def Bad1(l c:List Int)(i:Int):Prop:=lab1 l i≠lab1 l (c.headD 0)
structure In1(l c:List Int):Prop where
 ne:c≠[]
 has:∀i∈c,∃a,lget l i=some a
theorem q33_.spec{l c:List Int}(h:In1 l c){i:Int}(hi:i∈c):∃b,q33_.C i l c b/\(b=true↔Bad1 l c i):=by
 obtain⟨a,ha⟩:=h.has i hi;obtain⟨h0,hh0⟩:∃h0,c[0]?=some h0:=by
  match c,h.ne with
  |x::t,_=>exact⟨x,rfl⟩
 have hd:c.headD 0=h0:=by
  match c,hh0 with
  |x::t,e=>simpa using e
 obtain⟨b,hb⟩:=h.has h0 (zB hh0);obtain⟨r,h1,h2⟩:=q33_.enter i l c (fun r=>(r=true↔Bad1 l c i)) (by
  refine⟨a,ha,h0,by have:=Abk (l:=c) (k:=0);rw[hh0]at this;exact this,b,hb,?_⟩;unfold Bad1;rw[hd,Bap ha,Bap hb]
  simp)
 exact⟨r,h2,h1⟩
namespace q15_
theorem loop{l c:List Int}(h:In1 l c)(hn:c.length<Big):∀(r:List Int)(k:Nat),c.drop k=r->(∀i∈c.take k,¬Bad1 l c i)->L1 c l c k (fun r=>(0<=r↔∃i∈c,Bad1 l c i))
 |[],k,hd,hb=>by
  apply L1_step;have hk:=Abe hd;rw[if_neg (by omega)];rw[zL hk]at hb;constructor
  .intro h;omega
  .rintro ⟨i,h1,h2⟩;exact absurd h2 (hb i h1)
 |i::r,k,hd,hb=>by
  apply L1_step;have hk:=Abf hd;have hi:=zB (Ab0 hd);rw[if_pos (by omega)];obtain⟨b,h1,h2⟩:=q33_.spec h hi;refine⟨i,Abb hd,b,h1,?_⟩
  split
  .rename_i hbt;exact⟨fun _=>⟨i,hi,h2.1 hbt⟩,fun _=>by omega⟩
  .rename_i hbf;rw[Aa4 (by unfold Big at hn;omega)];refine loop h hn r (k+1) (Aah hd) fun j hj=>?_;rw[Af1 (Ab0 hd)]at hj;rcases zN.1 hj with hj|hj
   .exact hb j hj
   .simp at hj;subst hj;exact fun hh=>hbf (h2.2 hh)
theorem spec{l c:List Int}(h:In1 l c)(hn:c.length<Big):∃r,C c l c r/\(0<=r↔∃i∈c,Bad1 l c i):=by
 obtain⟨r,h1,h2⟩:=enter c l c (fun r=>(0<=r↔∃i∈c,Bad1 l c i)) (loop h hn c 0 rfl (by simp));exact⟨r,h2,h1⟩
end q15_
theorem q10_.spec{l c:List Int}(h:In1 l c)(hn:c.length<Big):∃b,q10_.C c l c b/\(b=true↔∃i∈c,Bad1 l c i):=by
 obtain⟨r,h1,h2⟩:=q10_.enter c l c (fun b=>(b=true↔∃i∈c,Bad1 l c i)) (by
  obtain⟨q,q1,q2⟩:=q15_.spec h hn;refine⟨q,q1,?_⟩
  rw[<-q2];simp)
 exact⟨r,h2,h1⟩
theorem q40_.spec{l c:List Int}(h:In1 l c)(hn:c.length<Big):∃b,q40_.C c l b/\(b=true↔∃i∈c,Bad1 l c i):=by
 obtain⟨r,h1,h2⟩:=q40_.enter c l (fun b=>(b=true↔∃i∈c,Bad1 l c i)) (q10_.spec h hn);exact⟨r,h2,h1⟩
def Bad2(l:List Int)(c:List Int):Prop:=∃i∈c,Bad1 l c i
namespace q16_
theorem loop{l:List Int}{cs:List (List Int)}(h:∀c∈cs,In1 l c)(hn:cs.length<Big)(hn2:∀c∈cs,c.length<Big):∀(r:List (List Int))(k:Nat),cs.drop k=r->(∀c∈cs.take k,¬Bad2 l c)->L1 cs l k (fun r=>(0<=r↔∃c∈cs,Bad2 l c))
 |[],k,hd,hb=>by
  apply L1_step;have hk:=Abe hd;rw[if_neg (by omega)];rw[zL hk]at hb;constructor
  .intro h;omega
  .rintro ⟨i,h1,h2⟩;exact absurd h2 (hb i h1)
 |c::r,k,hd,hb=>by
  apply L1_step;have hk:=Abf hd;have hc:=zB (Ab0 hd);rw[if_pos (by omega)];obtain⟨b,h1,h2⟩:=q40_.spec (h c hc) (hn2 c hc);refine⟨c,Abb hd,b,h1,?_⟩
  split
  .rename_i hbt;exact⟨fun _=>⟨c,hc,h2.1 hbt⟩,fun _=>by omega⟩
  .rename_i hbf;rw[Aa4 (by unfold Big at hn;omega)];refine loop h hn hn2 r (k+1) (Aah hd) fun j hj=>?_;rw[Af1 (Ab0 hd)]at hj;rcases zN.1 hj with hj|hj
   .exact hb j hj
   .simp at hj;subst hj;exact fun hh=>hbf (h2.2 hh)
theorem spec{l:List Int}{cs:List (List Int)}(h:∀c∈cs,In1 l c)(hn:cs.length<Big)(hn2:∀c∈cs,c.length<Big):∃r,C cs l r/\(0<=r↔∃c∈cs,Bad2 l c):=by
 obtain⟨r,h1,h2⟩:=enter cs l (fun r=>(0<=r↔∃c∈cs,Bad2 l c)) (loop h hn hn2 cs 0 rfl (by simp));exact⟨r,h2,h1⟩
end q16_
theorem q11_.spec{l:List Int}{cs:List (List Int)}(h:∀c∈cs,In1 l c)(hn:cs.length<Big)(hn2:∀c∈cs,c.length<Big):∃b,q11_.C cs l b/\(b=true↔∃c∈cs,Bad2 l c):=by
 obtain⟨r,h1,h2⟩:=q11_.enter cs l (fun b=>(b=true↔∃c∈cs,Bad2 l c)) (by
  obtain⟨q,q1,q2⟩:=q16_.spec h hn hn2;refine⟨q,q1,?_⟩
  rw[<-q2];simp)
 exact⟨r,h2,h1⟩
def RefP(a b:api_Partition):Prop:=Akn a b=0/\∀i j,0<=i/\i<a.Rows->0<=j/\j<a.Rows->Same a i j->Same b i j
theorem q52_.spec{a b:api_Partition}(ha:Aii a)(hb:Aii b):∃r,q52_.C a b r/\(r=true↔RefP a b):=by
 obtain⟨r,h1,h2⟩:=q52_.enter a b (fun r=>(r=true↔RefP a b)) (by
  refine⟨_,q93_.spec ha hb,?_⟩
  split
  .rename_i h0;obtain⟨va,vb,hr⟩:=Bfe h0;obtain⟨v1,v2,v3⟩:=Afv.1 va;have hin:∀c∈a.Classes,In1 (labN b) c:=fun c hc=>⟨fun hn=>by have:=v3.two c hc;rw[hn]at this;simp at this,fun i hi=>Ag3 (v3.inn c hc i hi).1 (by have:=(v3.inn c hc i hi).2;rw[Ar0];omega)⟩
   obtain⟨q,q1,q2⟩:=q11_.spec hin ha.1 ha.2;refine⟨_,q66_.spec hb vb,q,q1,?_⟩;have key:(∃c∈a.Classes,Bad2 (labN b) c)↔¬RefP a b:=by
    have sm:∀{i j:Int},0<=i/\i<a.Rows->0<=j/\j<a.Rows->(lab1 (labN b) i=lab1 (labN b) j↔Same b i j):=fun hi hj=>by
     rw[Bg2 (by rw[Ar0];omega) (by rw[Ar0];omega),Be4 vb (by omega) (by omega)]
    constructor
    .rintro ⟨c,hc,i,hi,hbad⟩ hR;have m1:=v3.inn c hc i hi;have hm:=Bdv (v3.two c hc);have m2:=v3.inn c hc _ hm;exact hbad ((sm m1 m2).2 (hR.2 i _ m1 m2 (.inr ⟨c,hc,hi,hm⟩)))
    .intro hR;apply zQ;intro hno;apply hR;refine⟨h0,fun i j hi hj hs=>?_⟩;rcases hs with rfl|⟨c,hc,h1,h2⟩
     .exact .inl rfl
     .have e:∀k∈c,lab1 (labN b) k=lab1 (labN b) (c.headD 0):=fun k hk=>zQ fun hne=>hno ⟨c,hc,k,hk,hne⟩;exact(sm hi hj).1 ((e i h1).trans (e j h2).symm)
   cases q with
   |true=>simp only[Bool.not_true,yG,false_iff];exact key.1 (q2.1 rfl)
   |false=>
    simp only[Bool.not_false,true_iff];exact zQ fun hn=>by have:=q2.2 (key.2 hn);cases this
  .rename_i h0;simp only[yG,false_iff]
   exact fun hR=>h0 hR.1)
 exact⟨r,h2,h1⟩
structure Lbl(x:api_Partition)(r:List Int):Prop where
 has:∀c∈x.Classes,∀i∈c,∃a,lget r i=some a
namespace drossref08_Removal
end drossref08_Removal
end Go.Own
namespace Go.Own
open Go.Proofs D
set_option maxRecDepth 100000
set_option maxHeartbeats 4000000
namespace q35_
noncomputable def B:Code:=(Tryz.f16.body).getD .skip
def W:List Nat:=[0,1,2,3,4,5,6,11,16,47]
def res(r:Bool):D×List D:=(.lit (.bool r),[])
def C(x0:api_Table)(x1:api_FD)(r:Bool):Prop:=Ret env 16 [.agg [.lit (.string x0.Name),.sl (x0.Attrs.map eS),.sl (x0.Rows.map Aa0)],.agg [.lit (.int .u32 x1.Lhs),.lit (.int .u32 x1.Rhs)]] (res r).1 (res r).2
def L1(x0:api_Table)(x1:api_FD)(z0:Int)(φ:Bool->Prop):Prop:=Pt env 16 W B [1,0,1,0] [(0,.agg [.lit (.string x0.Name),.sl (x0.Attrs.map eS),.sl (x0.Rows.map Aa0)]),(1,.agg [.lit (.int .u32 x1.Lhs),.lit (.int .u32 x1.Rhs)]),(2,.box [.lit (.string x0.Name),.sl (x0.Attrs.map eS),.sl (x0.Rows.map Aa0)]),(3,.box [.lit (.int .u32 x1.Lhs),.lit (.int .u32 x1.Rhs)]),(5,.lit (.int .i64 z0))] (Lv env 16 Tryz.f16 2 res φ)
def L2(x0:api_Table)(x1:api_FD)(z0 z1:Int)(φ:Bool->Prop):Prop:=Pt env 16 W B [1,0,1,0,0,1,0,0,1,0] [(0,.agg [.lit (.string x0.Name),.sl (x0.Attrs.map eS),.sl (x0.Rows.map Aa0)]),(1,.agg [.lit (.int .u32 x1.Lhs),.lit (.int .u32 x1.Rhs)]),(2,.box [.lit (.string x0.Name),.sl (x0.Attrs.map eS),.sl (x0.Rows.map Aa0)]),(3,.box [.lit (.int .u32 x1.Lhs),.lit (.int .u32 x1.Rhs)]),(5,.lit (.int .i64 z0)),(6,.lit (.int .i64 z1))] (Lv env 16 Tryz.f16 2 res φ)
def L3(x0:api_Table)(x1:api_FD)(z0 z1:Int)(φ:Bool->Prop):Prop:=Pt env 16 W B [1,0,1,0,0,1,0,0,1,0,0,1,1] [(0,.agg [.lit (.string x0.Name),.sl (x0.Attrs.map eS),.sl (x0.Rows.map Aa0)]),(1,.agg [.lit (.int .u32 x1.Lhs),.lit (.int .u32 x1.Rhs)]),(2,.box [.lit (.string x0.Name),.sl (x0.Attrs.map eS),.sl (x0.Rows.map Aa0)]),(3,.box [.lit (.int .u32 x1.Lhs),.lit (.int .u32 x1.Rhs)]),(5,.lit (.int .i64 z0)),(6,.lit (.int .i64 z1))] (Lv env 16 Tryz.f16 2 res φ)
theorem L1_step(x0:api_Table)(x1:api_FD)(z0:Int)(φ:Bool->Prop)(h:(if z0<(x0.Rows.length:Int)then L2 x0 x1 z0 0 φ else φ true)):L1 x0 x1 z0 φ:=mIn<|mLen 5 Aa0 x0.Rows<|mAsk 0 h dT dF (fun h=>mFin 6 h) fun h=>mRet 6 h
theorem L2_step(x0:api_Table)(x1:api_FD)(z0 z1:Int)(φ:Bool->Prop)(h:(if z1<z0 then ∃a1,lget x0.Rows z0=some a1/\∃a3,lget x0.Rows z1=some a3/\∃r5:Bool,q61_.C a1 a3 x1.Lhs r5/\(if r5=true then ∃r6:Bool,q61_.C a1 a3 x1.Rhs r6/\(if r6=true then L3 x0 x1 z0 z1 φ else φ false)else L3 x0 x1 z0 z1 φ)else L1 x0 x1 (IntKind.wrap .i64 (z0+1)) φ)):L2 x0 x1 z0 z1 φ:=mIn<|mAsk 4 h dT dF (fun h=>mIx 7 Aa0 h fun a1 h2 h=>mIx 4 Aa0 h fun a3 h4 h=>Aaw 3 h (fun _ h=>h) (fun _ h=>mIxf 4 Aa0 h2<|mIxf 4 Aa0 h4<|Aaw 3 h (fun _ h=>h) (fun _ h=>mFin 5 h) fun _ h=>mRet 7 h) fun _ h=>mFin 19 h) fun h=>mFin 8 h
theorem L3_step(x0:api_Table)(x1:api_FD)(z0 z1:Int)(φ:Bool->Prop)(h:L2 x0 x1 z0 (IntKind.wrap .i64 (z1+1)) φ):L3 x0 x1 z0 z1 φ:=mIn<|mFin 5 h
theorem enter(x0:api_Table)(x1:api_FD)(φ:Bool->Prop)(h:L1 x0 x1 0 φ):∃r,φ r/\C x0 x1 r:=mEnt (fd:=Tryz.f16) (body:=B) (V:=W) (res:=res)<|mFin 8 h
end q35_
namespace q85_
noncomputable def B:Code:=(Tryz.f44.body).getD .skip
def W:List Nat:=[0,1,2,3,4,5,6,10,19]
def res(r:Bool×Int):D×List D:=(.tup [.lit (.bool r.1),.lit (.int .i64 r.2)],[])
def C(x0:api_Table)(x1:api_FD)(r:Bool×Int):Prop:=Ret env 44 [.agg [.lit (.string x0.Name),.sl (x0.Attrs.map eS),.sl (x0.Rows.map Aa0)],.agg [.lit (.int .u32 x1.Lhs),.lit (.int .u32 x1.Rhs)]] (res r).1 (res r).2
theorem enter(x0:api_Table)(x1:api_FD)(φ:Bool×Int->Prop)(h:∃r1:Int,q113_.C x0 r1/\(if r1=0 then ∃r2:Bool,q67_.C x0 (bOr .u32 x1.Lhs x1.Rhs) r2/\(if r2=true then ∃r3:api_Partition,q106_.C x0 x1.Lhs r3/\∃r4:api_Partition,q106_.C x0 x1.Rhs r4/\∃r5:Bool,q52_.C r3 r4 r5/\φ (r5,0)else φ (false,6))else φ (false,r1))):∃r,φ r/\C x0 x1 r:=mEnt (fd:=Tryz.f44) (body:=B) (V:=W) (res:=res)<|mCal 8 h (fun _ h=>h) fun r1 _ h=>Abs 4 h Aby Abx (fun h=>mRet 7 h) fun h=>Aaw 10 h (fun _ h=>h) (fun _ h=>mLo 8 h (fun _ h=>h) (hf:=(fun _=>Bar)) fun r3 _ h=>mCal 3 h (fun _ h=>h) (hf:=(fun _=>Afd)) fun r4 _ h=>mCal 0 h (fun _ h=>h) fun r5 _ h=>mRet 3 h) fun _ h=>mRet 7 h
end q85_
namespace q44_
end q44_
namespace q86_
end q86_
namespace q36_
noncomputable def B:Code:=(Tryz.f58.body).getD .skip
def W:List Nat:=[0,1,2,3,4]
def res(r:Bool):D×List D:=(.lit (.bool r),[])
def C(x0 x1:api_Row)(r:Bool):Prop:=Ret env 58 [.agg [.lit (.int .i64 x0.ID),.sl (x0.Values.map Aa2)],.agg [.lit (.int .i64 x1.ID),.sl (x1.Values.map Aa2)]] (res r).1 (res r).2
theorem enter(x0 x1:api_Row)(φ:Bool->Prop)(h:(if x0.ID=x1.ID then ∃r1:Bool,q79_.C x0.Values x1.Values r1/\φ r1 else φ false)):∃r,φ r/\C x0 x1 r:=mEnt (fd:=Tryz.f58) (body:=B) (V:=W) (res:=res)<|mAsk 10 h Ab8 Ab7 (fun h=>mCal 5 h (fun _ h=>h) fun r1 _ h=>mRet 3 h) fun h=>mRet 9 h
end q36_
namespace q45_
noncomputable def B:Code:=(Tryz.f57.body).getD .skip
def W:List Nat:=[0,1,4,5,10,14,25]
def res(r:Bool):D×List D:=(.lit (.bool r),[])
def C(x0 x1:List ByteArray)(r:Bool):Prop:=Ret env 57 [.sl (x0.map eS),.sl (x1.map eS)] (res r).1 (res r).2
def L1(x0 x1:List ByteArray)(z0:Int)(φ:Bool->Prop):Prop:=Pt env 57 W B [1,1,0,1,0] [(0,.sl (x0.map eS)),(1,.sl (x1.map eS)),(5,.lit (.int .i64 z0))] (Lv env 57 Tryz.f57 2 res φ)
theorem L1_step(x0 x1:List ByteArray)(z0:Int)(φ:Bool->Prop)(h:(if z0<(x0.length:Int)then ∃a1,lget x0 z0=some a1/\∃a3,lget x1 z0=some a3/\(if a1.toList=a3.toList then L1 x0 x1 (IntKind.wrap .i64 (z0+1)) φ else φ false)else φ true)):L1 x0 x1 z0 φ:=mIn<|mLen 4 eS x0<|mAsk 0 h dT dF (fun h=>mIx 6 eS h fun a1 h2 h=>mIx 3 eS h fun a3 h4 h=>Abs 1 h (fun h=>Al7 (Awu h)) (fun h=>Al8 (Awt h)) (fun h=>mRet 5 h) fun h=>mFin 8 h) fun h=>mRet 6 h
theorem enter(x0 x1:List ByteArray)(φ:Bool->Prop)(h:(if(x0.length:Int)=(x1.length:Int)then L1 x0 x1 0 φ else φ false)):∃r,φ r/\C x0 x1 r:=mEnt (fd:=Tryz.f57) (body:=B) (V:=W) (res:=res)<|mLen 5 eS x0<|mLen 1 eS x1<|Abs 0 h Aby Abx (fun h=>mRet 5 h) fun h=>mFin 6 h
end q45_
namespace q69_
noncomputable def B:Code:=(Tryz.f25.body).getD .skip
def W:List Nat:=[0,1,2,3,4,5,27,32,46]
def res(r:Bool):D×List D:=(.lit (.bool r),[])
def C(x0 x1:api_Table)(r:Bool):Prop:=Ret env 25 [.agg [.lit (.string x0.Name),.sl (x0.Attrs.map eS),.sl (x0.Rows.map Aa0)],.agg [.lit (.string x1.Name),.sl (x1.Attrs.map eS),.sl (x1.Rows.map Aa0)]] (res r).1 (res r).2
def L1(x0 x1:api_Table)(z0:Int)(φ:Bool->Prop):Prop:=Pt env 25 W B [1,1,0,1,0] [(0,.agg [.lit (.string x0.Name),.sl (x0.Attrs.map eS),.sl (x0.Rows.map Aa0)]),(1,.agg [.lit (.string x1.Name),.sl (x1.Attrs.map eS),.sl (x1.Rows.map Aa0)]),(2,.box [.lit (.string x0.Name),.sl (x0.Attrs.map eS),.sl (x0.Rows.map Aa0)]),(3,.box [.lit (.string x1.Name),.sl (x1.Attrs.map eS),.sl (x1.Rows.map Aa0)]),(5,.lit (.int .i64 z0))] (Lv env 25 Tryz.f25 2 res φ)
theorem L1_step(x0 x1:api_Table)(z0:Int)(φ:Bool->Prop)(h:(if z0<(x0.Rows.length:Int)then ∃a2,lget x0.Rows z0=some a2/\∃a4,lget x1.Rows z0=some a4/\∃r6:Bool,q36_.C a2 a4 r6/\(if r6=true then L1 x0 x1 (IntKind.wrap .i64 (z0+1)) φ else φ false)else φ true)):L1 x0 x1 z0 φ:=mIn<|mLen 5 Aa0 x0.Rows<|mAsk 0 h dT dF (fun h=>mIx 7 Aa0 h fun a2 h3 h=>mIx 4 Aa0 h fun a4 h5 h=>Aaw 1 h (fun _ h=>h) (fun _ h=>mFin 9 h) fun _ h=>mRet 6 h) fun h=>mRet 6 h
theorem enter(x0 x1:api_Table)(φ:Bool->Prop)(h:(if x0.Name.toList=x1.Name.toList then ∃r1:Bool,q45_.C x0.Attrs x1.Attrs r1/\(if r1=true then(if(x0.Rows.length:Int)=(x1.Rows.length:Int)then L1 x0 x1 0 φ else φ false)else φ false)else φ false)):∃r,φ r/\C x0 x1 r:=mEnt (fd:=Tryz.f25) (body:=B) (V:=W) (res:=res)<|Abs 10 h (fun h=>Al7 (Awu h)) (fun h=>Al8 (Awt h)) (fun h=>mRet 22 h) fun h=>Aaw 5 h (fun _ h=>h) (fun _ h=>mLen 5 Aa0 x0.Rows<|mLen 2 Aa0 x1.Rows<|Abs 0 h Aby Abx (fun h=>mRet 6 h) fun h=>mFin 7 h) fun _ h=>mRet 16 h
end q69_
namespace q108_
end q108_
namespace q101_
end q101_
namespace q121_
def res(r:api_Table×Int):D×List D:=(.tup [.agg [.lit (.string r.1.Name),.own (r.1.Attrs.map eS),.own (r.1.Rows.map Aa7)],.lit (.int .i64 r.2)],[])
def C(x0:Int)(x1:List api_FD)(x2:api_FD)(r:api_Table×Int):Prop:=Ret env 28 [.lit (.int .i64 x0),.sl (x1.map Aa6),.agg [.lit (.int .u32 x2.Lhs),.lit (.int .u32 x2.Rhs)]] (res r).1 (res r).2
end q121_
namespace q53_
end q53_
namespace q54_
noncomputable def B:Code:=(Tryz.f47.body).getD .skip
def W:List Nat:=[0,1,2,6]
def res(r:Bool):D×List D:=(.lit (.bool r),[])
def C(x0 x1 x2:Int)(r:Bool):Prop:=Ret env 47 [.lit (.int .i64 x0),.lit (.int .u32 x1),.lit (.int .u32 x2)] (res r).1 (res r).2
theorem enter(x0 x1 x2:Int)(φ:Bool->Prop)(h:∃r1:Int,q77_.C x0 r1/\∃r2:Bool,q92_.C (bOr .u32 x1 x2) r1 r2/\φ r2):∃r,φ r/\C x0 x1 x2 r:=mEnt (fd:=Tryz.f47) (body:=B) (V:=W) (res:=res)<|mCal 8 h (fun _ h=>h) fun r1 _ h=>mCal 0 h (fun _ h=>h) fun r2 _ h=>mRet 2 h
end q54_
namespace q102_
def res(r:api_Table×Int):D×List D:=(.tup [.agg [.lit (.string r.1.Name),.own (r.1.Attrs.map eS),.own (r.1.Rows.map Aa7)],.lit (.int .i64 r.2)],[])
def C(x0:Int)(x1:List api_FD)(x2:api_FD)(r:api_Table×Int):Prop:=Ret env 29 [.lit (.int .i64 x0),.sl (x1.map Aa6),.agg [.lit (.int .u32 x2.Lhs),.lit (.int .u32 x2.Rhs)]] (res r).1 (res r).2
end q102_
namespace q70_
noncomputable def B:Code:=(Tryz.f15.body).getD .skip
def W:List Nat:=[0,1,2,3,6,7,8,9,10,14,23,27,40]
def res(r:Bool):D×List D:=(.lit (.bool r),[])
def C(x0:api_Table)(x1:List api_FD)(x2:List api_MVD)(r:Bool):Prop:=Ret env 15 [.agg [.lit (.string x0.Name),.sl (x0.Attrs.map eS),.sl (x0.Rows.map Aa0)],.sl (x1.map Aa6),.sl (x2.map Aa5)] (res r).1 (res r).2
def L1(x0:api_Table)(x1:List api_FD)(x2:List api_MVD)(z0:Int)(φ:Bool->Prop):Prop:=Pt env 15 W B [1,0,1,0] [(0,.agg [.lit (.string x0.Name),.sl (x0.Attrs.map eS),.sl (x0.Rows.map Aa0)]),(1,.sl (x1.map Aa6)),(2,.sl (x2.map Aa5)),(3,.box [.lit (.string x0.Name),.sl (x0.Attrs.map eS),.sl (x0.Rows.map Aa0)]),(7,.lit (.int .i64 z0))] (Lv env 15 Tryz.f15 3 res φ)
def L2(x0:api_Table)(x2:List api_MVD)(z0:Int)(φ:Bool->Prop):Prop:=Pt env 15 W B [1,1,0,1,0] [(0,.agg [.lit (.string x0.Name),.sl (x0.Attrs.map eS),.sl (x0.Rows.map Aa0)]),(2,.sl (x2.map Aa5)),(3,.box [.lit (.string x0.Name),.sl (x0.Attrs.map eS),.sl (x0.Rows.map Aa0)]),(8,.lit (.int .i64 z0))] (Lv env 15 Tryz.f15 3 res φ)
theorem L1_step(x0:api_Table)(x1:List api_FD)(x2:List api_MVD)(z0:Int)(φ:Bool->Prop)(h:(if z0<(x1.length:Int)then ∃a1,lget x1 z0=some a1/\∃r3:Bool,q35_.C x0 a1 r3/\(if r3=true then L1 x0 x1 x2 (IntKind.wrap .i64 (z0+1)) φ else φ false)else L2 x0 x2 0 φ)):L1 x0 x1 x2 z0 φ:=mIn<|mLen 4 Aa6 x1<|mAsk 0 h dT dF (fun h=>mIx 7 Aa6 h fun a1 h2 h=>Aaw 1 h (fun _ h=>h) (fun _ h=>mFin 9 h) fun _ h=>mRet 6 h) fun h=>mFin 6 h
theorem L2_step(x0:api_Table)(x2:List api_MVD)(z0:Int)(φ:Bool->Prop)(h:(if z0<(x2.length:Int)then ∃a4,lget x2 z0=some a4/\∃r6:Bool×Int,q65_.C x0 a4 r6/\(if r6.1=true then L2 x0 x2 (IntKind.wrap .i64 (z0+1)) φ else φ false)else φ true)):L2 x0 x2 z0 φ:=mIn<|mLen 4 Aa5 x2<|mAsk 0 h dT dF (fun h=>mIx 7 Aa5 h fun a4 h5 h=>mCal 1 h (fun _ h=>h) (hf:=(fun _=>Aao (Ab1 (Aa3 rfl (Aa3 rfl Aa9))) rfl)) fun r6 _ h=>mAsk 7 h id fls (fun h=>mFin 9 h) fun h=>mRet 6 h) fun h=>mRet 6 h
theorem enter(x0:api_Table)(x1:List api_FD)(x2:List api_MVD)(φ:Bool->Prop)(h:L1 x0 x1 x2 0 φ):∃r,φ r/\C x0 x1 x2 r:=mEnt (fd:=Tryz.f15) (body:=B) (V:=W) (res:=res)<|mFin 7 h
end q70_
namespace q71_
noncomputable def B:Code:=(Tryz.f17.body).getD .skip
def W:List Nat:=[0,1,2,3,6,7,8,9,11,12,13,15,16,17,21,30,32,33,34,35,45,47,48,49,50,60]
def res(r:Bool×Int):D×List D:=(.tup [.lit (.bool r.1),.lit (.int .i64 r.2)],[])
def C(x0:api_Table)(x1:List api_FD)(x2:List api_MVD)(r:Bool×Int):Prop:=Ret env 17 [.agg [.lit (.string x0.Name),.sl (x0.Attrs.map eS),.sl (x0.Rows.map Aa0)],.sl (x1.map Aa6),.sl (x2.map Aa5)] (res r).1 (res r).2
def L1(x0:api_Table)(x1:List api_FD)(x2:List api_MVD)(z0:Int)(φ:Bool×Int->Prop):Prop:=Pt env 17 W B [1,1,1,0,1,0] [(0,.agg [.lit (.string x0.Name),.sl (x0.Attrs.map eS),.sl (x0.Rows.map Aa0)]),(1,.sl (x1.map Aa6)),(2,.sl (x2.map Aa5)),(3,.box [.lit (.string x0.Name),.sl (x0.Attrs.map eS),.sl (x0.Rows.map Aa0)]),(32,.sl (x1.map Aa6)),(33,.lit (.int .i64 (x1.length:Int))),(34,.lit (.int .i64 z0))] (Lv env 17 Tryz.f17 3 res φ)
def L2(x0:api_Table)(x2:List api_MVD)(z0:Int)(φ:Bool×Int->Prop):Prop:=Pt env 17 W B [1,1,1,1,0,1,0] [(0,.agg [.lit (.string x0.Name),.sl (x0.Attrs.map eS),.sl (x0.Rows.map Aa0)]),(2,.sl (x2.map Aa5)),(3,.box [.lit (.string x0.Name),.sl (x0.Attrs.map eS),.sl (x0.Rows.map Aa0)]),(47,.sl (x2.map Aa5)),(48,.lit (.int .i64 (x2.length:Int))),(49,.lit (.int .i64 z0))] (Lv env 17 Tryz.f17 3 res φ)
theorem L1_step(x0:api_Table)(x1:List api_FD)(x2:List api_MVD)(z0:Int)(φ:Bool×Int->Prop)(h:(if z0<(x1.length:Int)then ∃a3,lget x1 z0=some a3/\∃r5:Bool×Int,q85_.C x0 a3 r5/\(if r5.1=true then L1 x0 x1 x2 (IntKind.wrap .i64 (z0+1)) φ else φ (false,0))else L2 x0 x2 0 φ)):L1 x0 x1 x2 z0 φ:=mIn<|mAsk 2 h dT dF (fun h=>mIx 4 Aa6 h fun a3 h4 h=>mCal 7 h (fun _ h=>h) (hf:=(fun _=>Aao (Ab1 (Aa3 rfl (Aa3 rfl Aa9))) rfl)) fun r5 _ h=>mAsk 7 h id fls (fun h=>mFin 8 h) fun h=>mRet 7 h) fun h=>mLen 5 Aa5 x2<|mFin 2 h
theorem L2_step(x0:api_Table)(x2:List api_MVD)(z0:Int)(φ:Bool×Int->Prop)(h:(if z0<(x2.length:Int)then ∃a6,lget x2 z0=some a6/\∃r8:Bool×Int,q115_.C x0 a6 r8/\(if r8.1=true then L2 x0 x2 (IntKind.wrap .i64 (z0+1)) φ else φ (false,0))else φ (true,0))):L2 x0 x2 z0 φ:=mIn<|mAsk 2 h dT dF (fun h=>mIx 4 Aa5 h fun a6 h7 h=>mCal 7 h (fun _ h=>h) (hf:=(fun _=>Aao (Ab1 (Aa3 rfl (Aa3 rfl Aa9))) rfl)) fun r8 _ h=>mAsk 7 h id fls (fun h=>mFin 8 h) fun h=>mRet 7 h) fun h=>mRet 7 h
theorem enter(x0:api_Table)(x1:List api_FD)(x2:List api_MVD)(φ:Bool×Int->Prop)(h:∃r1:Int,q113_.C x0 r1/\(if r1=0 then ∃r2:Int,q114_.C (x0.Attrs.length:Int) x1 x2 r2/\(if r2=0 then L1 x0 x1 x2 0 φ else φ (false,r2))else φ (false,r1))):∃r,φ r/\C x0 x1 x2 r:=mEnt (fd:=Tryz.f17) (body:=B) (V:=W) (res:=res)<|mCal 7 h (fun _ h=>h) fun r1 _ h=>Abs 4 h Aby Abx (fun h=>mRet 7 h) fun h=>mLen 6 eS x0.Attrs<|mCal 2 h (fun _ h=>h) fun r2 _ h=>Abs 4 h Aby Abx (fun h=>mRet 7 h) fun h=>mLen 5 Aa6 x1<|mFin 2 h
end q71_
namespace q109_
noncomputable def B:Code:=(Tryz.f19.body).getD .skip
def W:List Nat:=[0,1,2,3,4,7,8,9,10,11,12,25]
def res(r:Bool):D×List D:=(.lit (.bool r),[])
def C(x0:api_Table)(x1:List api_FD)(x2:List api_MVD)(x3:api_MVD)(r:Bool):Prop:=Ret env 19 [.agg [.lit (.string x0.Name),.sl (x0.Attrs.map eS),.sl (x0.Rows.map Aa0)],.sl (x1.map Aa6),.sl (x2.map Aa5),.agg [.lit (.int .u32 x3.Lhs),.lit (.int .u32 x3.Rhs)]] (res r).1 (res r).2
theorem enter(x0:api_Table)(x1:List api_FD)(x2:List api_MVD)(x3:api_MVD)(φ:Bool->Prop)(h:∃r1:Bool×Int,q71_.C x0 x1 x2 r1/\(if r1.2=0 then(if r1.1=true then ∃r2:Bool×Int,q115_.C x0 x3 r2/\(if r2.2=0 then φ (not r2.1)else φ false)else φ false)else φ false)):∃r,φ r/\C x0 x1 x2 x3 r:=mEnt (fd:=Tryz.f19) (body:=B) (V:=W) (res:=res)<|mCal 9 h (fun _ h=>h) (hf:=(fun _=>Aao (Ab1 (Aa3 rfl (Aa3 rfl Aa9))) rfl)) fun r1 _ h=>Abs 8 h Aby Abx (fun h=>mRet 9 h) fun h=>mAsk 1 h id fls (fun h=>mCal 8 h (fun _ h=>h) (hf:=(fun _=>Aao (Ab1 (Aa3 rfl (Aa3 rfl Aa9))) rfl)) fun r2 _ h=>mAsk 8 h Ab8 Ab7 (fun h=>mRet 6 h) fun h=>mRet 6 h) fun h=>mRet 7 h
end q109_
namespace q37_
noncomputable def B:Code:=(Tryz.f18.body).getD .skip
def W:List Nat:=[0,1,2,3,6,7,8,9,13,22]
def res(r:Bool×Int):D×List D:=(.tup [.lit (.bool r.1),.lit (.int .i64 r.2)],[])
def C(x0:api_Table)(x1:List api_FD)(x2:List api_MVD)(r:Bool×Int):Prop:=Ret env 18 [.agg [.lit (.string x0.Name),.sl (x0.Attrs.map eS),.sl (x0.Rows.map Aa0)],.sl (x1.map Aa6),.sl (x2.map Aa5)] (res r).1 (res r).2
theorem enter(x0:api_Table)(x1:List api_FD)(x2:List api_MVD)(φ:Bool×Int->Prop)(h:∃r1:Int,q59_.C x0 r1/\(if r1=0 then ∃r2:Int,q63_.C (x0.Attrs.length:Int) x1 x2 r2/\(if r2=0 then ∃r3:Bool,q70_.C x0 x1 x2 r3/\φ (r3,0)else φ (false,r2))else φ (false,r1))):∃r,φ r/\C x0 x1 x2 r:=mEnt (fd:=Tryz.f18) (body:=B) (V:=W) (res:=res)<|mCal 7 h (fun _ h=>h) fun r1 _ h=>Abs 4 h Aby Abx (fun h=>mRet 7 h) fun h=>mLen 6 eS x0.Attrs<|mCal 2 h (fun _ h=>h) fun r2 _ h=>Abs 4 h Aby Abx (fun h=>mRet 7 h) fun h=>mCal 7 h (fun _ h=>h) fun r3 _ h=>mRet 3 h
end q37_
namespace q72_
noncomputable def B:Code:=(Tryz.f20.body).getD .skip
def W:List Nat:=[0,1,2,3,4,7,8,9,10,11,12,36]
def res(r:Bool):D×List D:=(.lit (.bool r),[])
def C(x0:api_Table)(x1:List api_FD)(x2:List api_MVD)(x3:api_MVD)(r:Bool):Prop:=Ret env 20 [.agg [.lit (.string x0.Name),.sl (x0.Attrs.map eS),.sl (x0.Rows.map Aa0)],.sl (x1.map Aa6),.sl (x2.map Aa5),.agg [.lit (.int .u32 x3.Lhs),.lit (.int .u32 x3.Rhs)]] (res r).1 (res r).2
theorem enter(x0:api_Table)(x1:List api_FD)(x2:List api_MVD)(x3:api_MVD)(φ:Bool->Prop)(h:∃r1:Bool×Int,q37_.C x0 x1 x2 r1/\(if r1.2=0 then(if r1.1=true then ∃r2:Bool,q54_.C (x0.Attrs.length:Int) x3.Lhs x3.Rhs r2/\(if r2=true then ∃r3:Bool×Int,q65_.C x0 x3 r3/\φ (not r3.1)else φ false)else φ false)else φ false)):∃r,φ r/\C x0 x1 x2 x3 r:=mEnt (fd:=Tryz.f20) (body:=B) (V:=W) (res:=res)<|mCal 9 h (fun _ h=>h) (hf:=(fun _=>Aao (Ab1 (Aa3 rfl (Aa3 rfl Aa9))) rfl)) fun r1 _ h=>Abs 8 h Aby Abx (fun h=>mRet 20 h) fun h=>mAsk 1 h id fls (fun h=>mLen 5 eS x0.Attrs<|Aaw 4 h (fun _ h=>h) (fun _ h=>mCal 8 h (fun _ h=>h) (hf:=(fun _=>Aao (Ab1 (Aa3 rfl (Aa3 rfl Aa9))) rfl)) fun r3 _ h=>mRet 11 h) fun _ h=>mRet 7 h) fun h=>mRet 18 h
end q72_
namespace q87_
noncomputable def B:Code:=(Tryz.f125.body).getD .skip
def W:List Nat:=[0,2]
def res(r:Bool):D×List D:=(.lit (.bool r),[])
def C(x0:Int)(r:Bool):Prop:=Ret env 125 [.lit (.int .i64 x0)] (res r).1 (res r).2
theorem enter(x0:Int)(φ:Bool->Prop)(h:φ (x0 != x0)):∃r,φ r/\C x0 r:=mEnt (fd:=Tryz.f125) (body:=B) (V:=W) (res:=res)<|mRet 9 h
end q87_
namespace q55_
noncomputable def B:Code:=(Tryz.f96.body).getD .skip
def W:List Nat:=[0,1,4,5,6,11,12,13,16,19]
def res(r:Int):D×List D:=(.lit (.int .i64 r),[])
def C(x0 x1 r:Int):Prop:=Ret env 96 [.lit (.int .i64 x0),.lit (.int .i64 x1)] (res r).1 (res r).2
theorem enter(x0 x1:Int)(φ:Int->Prop)(h:∃r1:Bool,q87_.C x0 r1/\∃r2:Bool,q87_.C x1 r2/\(if r1=true then(if r2=true then φ 0 else φ (-1))else(if r2=true then φ 1 else(if x0<x1 then φ (-1)else(if x1<x0 then φ 1 else φ 0))))):∃r,φ r/\C x0 x1 r:=mEnt (fd:=Tryz.f96) (body:=B) (V:=W) (res:=res)<|mCal 5 h (fun _ h=>h) fun r1 _ h=>mCal 4 h (fun _ h=>h) fun r2 _ h=>mAsk 3 h id fls (fun h=>mAsk 3 h id fls (fun h=>mRet 5 h) fun h=>mRet 6 h) fun h=>mAsk 4 h id fls (fun h=>mRet 5 h) fun h=>mAsk 6 h dT dF (fun h=>mRet 5 h) fun h=>mAsk 6 h dT dF (fun h=>mRet 5 h) fun h=>mRet 6 h
end q55_
namespace q28_
noncomputable def B:Code:=(Tryz.f126.body).getD .skip
def W:List Nat:=[0,1,4,5,7,8,9,16]
def res(r:Int):D×List D:=(.lit (.int .i64 r),[])
def C(x0:List Int)(x1 r:Int):Prop:=Ret env 126 [.sl (x0.map (eI .i64)),.lit (.int .i64 x1)] (res r).1 (res r).2
def L1(x0:List Int)(x1 z0:Int)(φ:Int->Prop):Prop:=Pt env 126 W B [1,0,1,0] [(0,.sl (x0.map (eI .i64))),(1,.lit (.int .i64 x1)),(7,.lit (.int .i64 (x0.length:Int))),(8,.lit (.int .i64 z0))] (Lv env 126 Tryz.f126 2 res φ)
theorem L1_step(x0:List Int)(x1 z0:Int)(φ:Int->Prop)(h:(if z0<(x0.length:Int)then ∃a1,lget x0 z0=some a1/\(if x1=a1 then φ z0 else L1 x0 x1 (IntKind.wrap .i64 (z0+1)) φ)else φ (-1))):L1 x0 x1 z0 φ:=mIn<|mAsk 2 h dT dF (fun h=>mIx 11 (eI .i64) h fun a1 h2 h=>mAsk 1 h Ab8 Ab7 (fun h=>mRet 6 h) fun h=>mFin 7 h) fun h=>mRet 6 h
theorem enter(x0:List Int)(x1:Int)(φ:Int->Prop)(h:L1 x0 x1 0 φ):∃r,φ r/\C x0 x1 r:=mEnt (fd:=Tryz.f126) (body:=B) (V:=W) (res:=res)<|mLen 5 (eI .i64) x0<|mFin 2 h
end q28_
namespace q24_
noncomputable def B:Code:=(Tryz.f97.body).getD .skip
def W:List Nat:=[0,1,4]
def res(r:Bool):D×List D:=(.lit (.bool r),[])
def C(x0:List Int)(x1:Int)(r:Bool):Prop:=Ret env 97 [.sl (x0.map (eI .i64)),.lit (.int .i64 x1)] (res r).1 (res r).2
theorem enter(x0:List Int)(x1:Int)(φ:Bool->Prop)(h:∃r1:Int,q28_.C x0 x1 r1/\φ (decide (0<=r1))):∃r,φ r/\C x0 x1 r:=mEnt (fd:=Tryz.f97) (body:=B) (V:=W) (res:=res)<|mCal 6 h (fun _ h=>h) fun r1 _ h=>mRet 3 h
end q24_
namespace q103_
noncomputable def B:Code:=(Tryz.f129.body).getD .skip
def W:List Nat:=[0,1,2]
def res(r:api_Row):D×List D:=(.agg [.lit (.int .i64 r.ID),.own (r.Values.map Aa2)],[])
def C(x0 r:api_Row):Prop:=Ret env 129 [.agg [.lit (.int .i64 x0.ID),.sl (x0.Values.map Aa2)]] (res r).1 (res r).2
theorem enter(x0:api_Row)(φ:api_Row->Prop)(h:(0+x0.Values.length)*32<=140737488355328/\φ x0):∃r,φ r/\C x0 r:=mEnt (fd:=Tryz.f129) (body:=B) (V:=W) (res:=res)<|Bh2 10 Aa2 ([]) x0.Values h fun h=>mRet 3 h
end q103_
namespace q88_
noncomputable def B:Code:=(Tryz.f100.body).getD .skip
def W:List Nat:=[0,1,2,4,5,6,17]
def res(r:api_Table):D×List D:=(.agg [.lit (.string r.Name),.own (r.Attrs.map eS),.own (r.Rows.map Aa7)],[])
def C(x0:api_Table)(x1:List api_Row)(r:api_Table):Prop:=Ret env 100 [.agg [.lit (.string x0.Name),.sl (x0.Attrs.map eS),.sl (x0.Rows.map Aa0)],.sl (x1.map Aa0)] (res r).1 (res r).2
def L1(x1:List api_Row)(x0:api_Table)(z0:List api_Row)(z1:Int)(φ:api_Table->Prop):Prop:=Pt env 100 W B [1,1,0,1,0] [(1,.sl (x1.map Aa0)),(4,.box [.lit (.string (⟨#[]⟩:ByteArray)),.own [],.own []]),(5,.box [.lit (.string x0.Name),.own (x0.Attrs.map eS),.own (z0.map Aa7)]),(6,.lit (.int .i64 z1))] (Lv env 100 Tryz.f100 2 res φ)
theorem L1_step(x1:List api_Row)(x0:api_Table)(z0:List api_Row)(z1:Int)(φ:api_Table->Prop)(h:(if z1<(x1.length:Int)then ∃a2,lget x1 z1=some a2/\∃r4:api_Row,q103_.C a2 r4/\(z0.length+1)*32<=140737488355328/\L1 x1 x0 (z0++[r4]) (IntKind.wrap .i64 (z1+1)) φ else φ (⟨x0.Name,x0.Attrs,z0⟩:api_Table))):L1 x1 x0 z0 z1 φ:=mIn<|mLen 4 Aa0 x1<|mAsk 0 h dT dF (fun h=>mIx 8 Aa0 h fun a2 h3 h=>mLo 1 h (fun _ h=>h) (hf:=(fun _=>Aia (Acy (Aa3 rfl (Aa3 (Aa8 (e:=Aa2) (fun _=>rfl)) Aa9))))) fun r4 _ h=>mApp 1 Aa7 z0 ([r4]) h fun h=>mFin 8 h) fun h=>mRet 7 h
theorem enter(x0:api_Table)(x1:List api_Row)(φ:api_Table->Prop)(h:(0+x0.Attrs.length)*16<=140737488355328/\L1 x1 x0 ([]) 0 φ):∃r,φ r/\C x0 x1 r:=mEnt (fd:=Tryz.f100) (body:=B) (V:=W) (res:=res)<|Bh2 10 eS ([]) x0.Attrs h fun h=>mFin 7 h
end q88_
namespace q110_
noncomputable def B:Code:=(Tryz.f128.body).getD .skip
def W:List Nat:=[0,1,2]
def res(r:api_Row):D×List D:=(.agg [.lit (.int .i64 r.ID),.own (r.Values.map Aa2)],[])
def C(x0 r:api_Row):Prop:=Ret env 128 [.agg [.lit (.int .i64 x0.ID),.sl (x0.Values.map Aa2)]] (res r).1 (res r).2
theorem enter(x0:api_Row)(φ:api_Row->Prop)(h:x0.Values.length*32<=140737488355328/\φ x0):∃r,φ r/\C x0 r:=mEnt (fd:=Tryz.f128) (body:=B) (V:=W) (res:=res)<|h.elim fun h1 h=>mLoP 9 (show Ret env 146 [.sl (x0.Values.map Aa2)] (.own (x0.Values.map Aa2)) []from Aoq (k:=3) (b:=32) (e:=Aa2) (l:=x0.Values) (by kernel_rfl) (fun _=>rfl) h1) (hf:=(Aia (Aa8 (e:=Aa2) (fun _=>rfl))))<|mRet 3 h
end q110_
namespace q117_
noncomputable def B:Code:=(Tryz.f98.body).getD .skip
def W:List Nat:=[0,1,2,4,5,7,14,15,16,17]
def res(r:api_Table):D×List D:=(.agg [.lit (.string r.Name),.own (r.Attrs.map eS),.own (r.Rows.map Aa7)],[])
def C(x0:api_Table)(x1:List api_Row)(r:api_Table):Prop:=Ret env 98 [.agg [.lit (.string x0.Name),.sl (x0.Attrs.map eS),.sl (x0.Rows.map Aa0)],.sl (x1.map Aa0)] (res r).1 (res r).2
def L1(x1:List api_Row)(x0:api_Table)(z0:List api_Row)(z1:Int)(φ:api_Table->Prop):Prop:=Pt env 98 W B [1,1,0,1,0] [(1,.sl (x1.map Aa0)),(4,.box [.lit (.string (⟨#[]⟩:ByteArray)),.own [],.own []]),(5,.box [.lit (.string x0.Name),.own (x0.Attrs.map eS),.own (z0.map Aa7)]),(14,.sl (x1.map Aa0)),(15,.lit (.int .i64 (x1.length:Int))),(16,.lit (.int .i64 z1))] (Lv env 98 Tryz.f98 2 res φ)
theorem L1_step(x1:List api_Row)(x0:api_Table)(z0:List api_Row)(z1:Int)(φ:api_Table->Prop)(h:(if z1<(x1.length:Int)then ∃a2,lget x1 z1=some a2/\∃r4:api_Row,q110_.C a2 r4/\(z0.length+1)*32<=140737488355328/\L1 x1 x0 (z0++[r4]) (IntKind.wrap .i64 (z1+1)) φ else φ (⟨x0.Name,x0.Attrs,z0⟩:api_Table))):L1 x1 x0 z0 z1 φ:=mIn<|mAsk 2 h dT dF (fun h=>mIx 4 Aa0 h fun a2 h3 h=>mLo 8 h (fun _ h=>h) (hf:=(fun _=>Aia (Acy (Aa3 rfl (Aa3 (Aa8 (e:=Aa2) (fun _=>rfl)) Aa9))))) fun r4 _ h=>mApp 1 Aa7 z0 ([r4]) h fun h=>mFin 7 h) fun h=>mRet 7 h
theorem enter(x0:api_Table)(x1:List api_Row)(φ:api_Table->Prop)(h:x0.Attrs.length*16<=140737488355328/\L1 x1 x0 ([]) 0 φ):∃r,φ r/\C x0 x1 r:=mEnt (fd:=Tryz.f98) (body:=B) (V:=W) (res:=res)<|h.elim fun h1 h=>mLoP 9 (show Ret env 127 [.sl (x0.Attrs.map eS)] (.own (x0.Attrs.map eS)) []from Aoq (k:=1) (b:=16) (e:=eS) (l:=x0.Attrs) (by kernel_rfl) (fun _=>rfl) h1) (hf:=(Aia (Aa8 (e:=eS) (fun _=>rfl))))<|mLen 6 Aa0 x1<|mFin 2 h
end q117_
namespace q118_
noncomputable def B:Code:=(Tryz.f53.body).getD .skip
def W:List Nat:=[0,1,2,4,5,7,9,10,11,12,18]
def res(r:api_Table):D×List D:=(.agg [.lit (.string r.Name),.own (r.Attrs.map eS),.own (r.Rows.map Aa7)],[])
def C(x0:api_Table)(x1:List Int)(r:api_Table):Prop:=Ret env 53 [.agg [.lit (.string x0.Name),.sl (x0.Attrs.map eS),.sl (x0.Rows.map Aa0)],.sl (x1.map (eI .i64))] (res r).1 (res r).2
def L1(x0:api_Table)(x1:List Int)(z0:List api_Row)(z1:Int)(φ:api_Table->Prop):Prop:=Pt env 53 W B [1,1,0,1,0] [(0,.agg [.lit (.string x0.Name),.sl (x0.Attrs.map eS),.sl (x0.Rows.map Aa0)]),(1,.sl (x1.map (eI .i64))),(2,.box [.lit (.string x0.Name),.sl (x0.Attrs.map eS),.sl (x0.Rows.map Aa0)]),(4,.box [.lit (.string (⟨#[]⟩:ByteArray)),.own [],.own []]),(5,.own (z0.map Aa0)),(9,.sl (x0.Rows.map Aa0)),(10,.lit (.int .i64 (x0.Rows.length:Int))),(11,.lit (.int .i64 z1))] (Lv env 53 Tryz.f53 2 res φ)
def L2(x0:api_Table)(x1:List Int)(z0:List api_Row)(z1:Int)(φ:api_Table->Prop):Prop:=Pt env 53 W B [1,1,0,1,0,0,1,1,1] [(0,.agg [.lit (.string x0.Name),.sl (x0.Attrs.map eS),.sl (x0.Rows.map Aa0)]),(1,.sl (x1.map (eI .i64))),(2,.box [.lit (.string x0.Name),.sl (x0.Attrs.map eS),.sl (x0.Rows.map Aa0)]),(4,.box [.lit (.string (⟨#[]⟩:ByteArray)),.own [],.own []]),(5,.own (z0.map Aa0)),(9,.sl (x0.Rows.map Aa0)),(10,.lit (.int .i64 (x0.Rows.length:Int))),(11,.lit (.int .i64 z1))] (Lv env 53 Tryz.f53 2 res φ)
theorem L1_step(x0:api_Table)(x1:List Int)(z0:List api_Row)(z1:Int)(φ:api_Table->Prop)(h:(if z1<(x0.Rows.length:Int)then ∃a1,lget x0.Rows z1=some a1/\∃r3:Bool,q24_.C x1 a1.ID r3/\(if r3=true then(z0.length+1)*32<=140737488355328/\L2 x0 x1 (z0++[a1]) z1 φ else L2 x0 x1 z0 z1 φ)else ∃r5:api_Table,q117_.C x0 z0 r5/\φ r5)):L1 x0 x1 z0 z1 φ:=mIn<|mAsk 2 h dT dF (fun h=>mIx 4 Aa0 h fun a1 h2 h=>Aaw 8 h (fun _ h=>h) (fun _ h=>mApp 6 Aa0 z0 ([a1]) h fun h=>mFin 2 h) fun _ h=>mFin 3 h) fun h=>mCal 6 h (fun _ h=>h) (hr:=by exact(pr_k (Ab5 (Aav (s:=5) (ps:=[]) (l:=z0) (e:=Aa0) (e':=Aa0) (fun _=>rfl) (by kernel_rfl)) Ac7))) (hf:=(fun _=>Aao (Acy (Aa3 rfl (Aa3 (Aa8 (e:=eS) (fun _=>rfl)) (Aa3 (Aa8 (e:=Aa7) (fun _=>(Aa3 rfl (Aa3 (Aa8 (e:=Aa2) (fun _=>rfl)) Aa9)))) Aa9)))) rfl)) fun r5 _ h=>mRet 2 h
theorem L2_step(x0:api_Table)(x1:List Int)(z0:List api_Row)(z1:Int)(φ:api_Table->Prop)(h:L1 x0 x1 z0 (IntKind.wrap .i64 (z1+1)) φ):L2 x0 x1 z0 z1 φ:=mIn<|mFin 4 h
theorem enter(x0:api_Table)(x1:List Int)(φ:api_Table->Prop)(h:L1 x0 x1 ([]) 0 φ):∃r,φ r/\C x0 x1 r:=mEnt (fd:=Tryz.f53) (body:=B) (V:=W) (res:=res)<|mLen 10 Aa0 x0.Rows<|mFin 2 h
end q118_
namespace q94_
noncomputable def B:Code:=(Tryz.f99.body).getD .skip
def W:List Nat:=[0,1,4,5,9,17]
def res(r:Bool):D×List D:=(.lit (.bool r),[])
def C(x0:List Int)(x1:Int)(r:Bool):Prop:=Ret env 99 [.sl (x0.map (eI .i64)),.lit (.int .i64 x1)] (res r).1 (res r).2
def L1(x0:List Int)(x1 z0:Int)(φ:Bool->Prop):Prop:=Pt env 99 W B [1,0,1,0] [(0,.sl (x0.map (eI .i64))),(1,.lit (.int .i64 x1)),(5,.lit (.int .i64 z0))] (Lv env 99 Tryz.f99 2 res φ)
theorem L1_step(x0:List Int)(x1 z0:Int)(φ:Bool->Prop)(h:(if z0<(x0.length:Int)then ∃a1,lget x0 z0=some a1/\(if a1=x1 then φ true else L1 x0 x1 (IntKind.wrap .i64 (z0+1)) φ)else φ false)):L1 x0 x1 z0 φ:=mIn<|mLen 4 (eI .i64) x0<|mAsk 0 h dT dF (fun h=>mIx 6 (eI .i64) h fun a1 h2 h=>mAsk 2 h Ab8 Ab7 (fun h=>mRet 5 h) fun h=>mFin 8 h) fun h=>mRet 6 h
theorem enter(x0:List Int)(x1:Int)(φ:Bool->Prop)(h:L1 x0 x1 0 φ):∃r,φ r/\C x0 x1 r:=mEnt (fd:=Tryz.f99) (body:=B) (V:=W) (res:=res)<|mFin 6 h
end q94_
namespace q89_
noncomputable def B:Code:=(Tryz.f56.body).getD .skip
def W:List Nat:=[0,1,2,4,5,6,11,21]
def res(r:api_Table):D×List D:=(.agg [.lit (.string r.Name),.own (r.Attrs.map eS),.own (r.Rows.map Aa7)],[])
def C(x0:api_Table)(x1:List Int)(r:api_Table):Prop:=Ret env 56 [.agg [.lit (.string x0.Name),.sl (x0.Attrs.map eS),.sl (x0.Rows.map Aa0)],.sl (x1.map (eI .i64))] (res r).1 (res r).2
def L1(x0:api_Table)(x1:List Int)(z0:List api_Row)(z1:Int)(φ:api_Table->Prop):Prop:=Pt env 56 W B [1,1,0,1,0] [(0,.agg [.lit (.string x0.Name),.sl (x0.Attrs.map eS),.sl (x0.Rows.map Aa0)]),(1,.sl (x1.map (eI .i64))),(2,.box [.lit (.string x0.Name),.sl (x0.Attrs.map eS),.sl (x0.Rows.map Aa0)]),(4,.box [.lit (.string (⟨#[]⟩:ByteArray)),.own [],.own []]),(5,.own (z0.map Aa0)),(6,.lit (.int .i64 z1))] (Lv env 56 Tryz.f56 2 res φ)
def L2(x0:api_Table)(x1:List Int)(z0:List api_Row)(z1:Int)(φ:api_Table->Prop):Prop:=Pt env 56 W B [1,1,0,1,0,0,1,1] [(0,.agg [.lit (.string x0.Name),.sl (x0.Attrs.map eS),.sl (x0.Rows.map Aa0)]),(1,.sl (x1.map (eI .i64))),(2,.box [.lit (.string x0.Name),.sl (x0.Attrs.map eS),.sl (x0.Rows.map Aa0)]),(4,.box [.lit (.string (⟨#[]⟩:ByteArray)),.own [],.own []]),(5,.own (z0.map Aa0)),(6,.lit (.int .i64 z1))] (Lv env 56 Tryz.f56 2 res φ)
theorem L1_step(x0:api_Table)(x1:List Int)(z0:List api_Row)(z1:Int)(φ:api_Table->Prop)(h:(if z1<(x0.Rows.length:Int)then ∃a1,lget x0.Rows z1=some a1/\∃r3:Bool,q94_.C x1 a1.ID r3/\(if r3=true then(z0.length+1)*32<=140737488355328/\L2 x0 x1 (z0++[a1]) z1 φ else L2 x0 x1 z0 z1 φ)else ∃r5:api_Table,q88_.C x0 z0 r5/\φ r5)):L1 x0 x1 z0 z1 φ:=mIn<|mLen 5 Aa0 x0.Rows<|mAsk 0 h dT dF (fun h=>mIx 8 Aa0 h fun a1 h2 h=>Aaw 2 h (fun _ h=>h) (fun _ h=>mIxf 7 Aa0 h2<|mApp 2 Aa0 z0 ([a1]) h fun h=>mFin 2 h) fun _ h=>mFin 3 h) fun h=>mCal 6 h (fun _ h=>h) (hr:=by exact(pr_k (Ab5 (Aav (s:=5) (ps:=[]) (l:=z0) (e:=Aa0) (e':=Aa0) (fun _=>rfl) (by kernel_rfl)) Ac7))) (hf:=(fun _=>Aao (Acy (Aa3 rfl (Aa3 (Aa8 (e:=eS) (fun _=>rfl)) (Aa3 (Aa8 (e:=Aa7) (fun _=>(Aa3 rfl (Aa3 (Aa8 (e:=Aa2) (fun _=>rfl)) Aa9)))) Aa9)))) rfl)) fun r5 _ h=>mRet 2 h
theorem L2_step(x0:api_Table)(x1:List Int)(z0:List api_Row)(z1:Int)(φ:api_Table->Prop)(h:L1 x0 x1 z0 (IntKind.wrap .i64 (z1+1)) φ):L2 x0 x1 z0 z1 φ:=mIn<|mFin 5 h
theorem enter(x0:api_Table)(x1:List Int)(φ:api_Table->Prop)(h:L1 x0 x1 ([]) 0 φ):∃r,φ r/\C x0 x1 r:=mEnt (fd:=Tryz.f56) (body:=B) (V:=W) (res:=res)<|mFin 10 h
end q89_
namespace q26_
noncomputable def B:Code:=(Tryz.f52.body).getD .skip
def W:List Nat:=[0,1,4,5,6,7,8,9,10,11,12,19,28,35]
def res(r:Int):D×List D:=(.lit (.int .i64 r),[])
def C(x0 x1:List Int)(r:Int):Prop:=Ret env 52 [.sl (x0.map (eI .i64)),.sl (x1.map (eI .i64))] (res r).1 (res r).2
def L1(x0 x1:List Int)(z0:Int)(φ:Int->Prop):Prop:=Pt env 52 W B [1,0,1,0] [(0,.sl (x0.map (eI .i64))),(1,.sl (x1.map (eI .i64))),(9,.sl (x0.map (eI .i64))),(10,.lit (.int .i64 (x0.length:Int))),(11,.lit (.int .i64 z0))] (Lv env 52 Tryz.f52 2 res φ)
theorem L1_step(x0 x1:List Int)(z0:Int)(φ:Int->Prop)(h:(if z0<(x0.length:Int)then ∃a1,lget x0 z0=some a1/\(if(x1.length:Int)<=z0 then φ 1 else ∃a3,lget x1 z0=some a3/\∃r5:Int,q55_.C a1 a3 r5/\(if r5=0 then L1 x0 x1 (IntKind.wrap .i64 (z0+1)) φ else φ r5))else(if(x0.length:Int)<(x1.length:Int)then φ (-1)else φ 0))):L1 x0 x1 z0 φ:=mIn<|mAsk 2 h dT dF (fun h=>mIx 5 (eI .i64) h fun a1 h2 h=>mLen 7 (eI .i64) x1<|mAsk 0 h dT dF (fun h=>mRet 5 h) fun h=>mIx 6 (eI .i64) h fun a3 h4 h=>mCal 6 h (fun _ h=>h) fun r5 _ h=>Abs 4 h Aby Abx (fun h=>mRet 6 h) fun h=>mFin 7 h) fun h=>mLen 5 (eI .i64) x0<|mLen 1 (eI .i64) x1<|mAsk 0 h dT dF (fun h=>mRet 5 h) fun h=>mRet 6 h
theorem enter(x0 x1:List Int)(φ:Int->Prop)(h:L1 x0 x1 0 φ):∃r,φ r/\C x0 x1 r:=mEnt (fd:=Tryz.f52) (body:=B) (V:=W) (res:=res)<|mLen 5 (eI .i64) x0<|mFin 2 h
end q26_
namespace q90_
noncomputable def B:Code:=(Tryz.f23.body).getD .skip
def W:List Nat:=[0,1,2,3,4,7,8,9,10,11,13,14,16,17,23,28,35,36,37,38,42,43,44,45,73,81]
def res(r:api_Table×Int):D×List D:=(.tup [.agg [.lit (.string r.1.Name),.own (r.1.Attrs.map eS),.own (r.1.Rows.map Aa7)],.lit (.int .i64 r.2)],[])
def C(x0:api_Table)(x1:List api_FD)(x2:List api_MVD)(x3:api_MVD)(r:api_Table×Int):Prop:=Ret env 23 [.agg [.lit (.string x0.Name),.sl (x0.Attrs.map eS),.sl (x0.Rows.map Aa0)],.sl (x1.map Aa6),.sl (x2.map Aa5),.agg [.lit (.int .u32 x3.Lhs),.lit (.int .u32 x3.Rhs)]] (res r).1 (res r).2
def L1(x0:api_Table)(x1:List api_FD)(x2:List api_MVD)(x3:api_MVD)(z0:ByteArray)(z1:List ByteArray)(z2:List api_Row)(z3 r3:List Int)(z4:Int)(φ:api_Table×Int->Prop):Prop:=Pt env 23 W B [1,1,1,1,1,0,1,0] [(0,.agg [.lit (.string x0.Name),.sl (x0.Attrs.map eS),.sl (x0.Rows.map Aa0)]),(1,.sl (x1.map Aa6)),(2,.sl (x2.map Aa5)),(3,.agg [.lit (.int .u32 x3.Lhs),.lit (.int .u32 x3.Rhs)]),(4,.box [.lit (.string x0.Name),.sl (x0.Attrs.map eS),.sl (x0.Rows.map Aa0)]),(7,.box [.lit (.int .u32 x3.Lhs),.lit (.int .u32 x3.Rhs)]),(8,.box [.lit (.string (⟨#[]⟩:ByteArray)),.own [],.own []]),(10,.box [.lit (.string z0),.own (z1.map eS),.own (z2.map Aa7)]),(11,.own (z3.map (eI .i64))),(35,.sl (r3.map (eI .u32))),(36,.lit (.int .i64 (r3.length:Int))),(37,.lit (.int .i64 z4))] (Lv env 23 Tryz.f23 4 res φ)
def L2(x0:api_Table)(x1:List api_FD)(x2:List api_MVD)(x3:api_MVD)(z0:ByteArray)(z1:List ByteArray)(z2:List api_Row)(z3 z4 r3:List Int)(z5:Int)(r6:List Int)(z6:Int)(φ:api_Table×Int->Prop):Prop:=Pt env 23 W B [1,1,1,1,1,0,1,0,0,1,1,0,0,1,1,0,1,0] [(0,.agg [.lit (.string x0.Name),.sl (x0.Attrs.map eS),.sl (x0.Rows.map Aa0)]),(1,.sl (x1.map Aa6)),(2,.sl (x2.map Aa5)),(3,.agg [.lit (.int .u32 x3.Lhs),.lit (.int .u32 x3.Rhs)]),(4,.box [.lit (.string x0.Name),.sl (x0.Attrs.map eS),.sl (x0.Rows.map Aa0)]),(7,.box [.lit (.int .u32 x3.Lhs),.lit (.int .u32 x3.Rhs)]),(8,.box [.lit (.string (⟨#[]⟩:ByteArray)),.own [],.own []]),(10,.box [.lit (.string z0),.own (z1.map eS),.own (z2.map Aa7)]),(11,.own (z3.map (eI .i64))),(14,.own (z4.map (eI .i64))),(35,.sl (r3.map (eI .u32))),(36,.lit (.int .i64 (r3.length:Int))),(37,.lit (.int .i64 z5)),(42,.own (r6.map (eI .i64))),(43,.lit (.int .i64 (r6.length:Int))),(44,.lit (.int .i64 z6))] (Lv env 23 Tryz.f23 4 res φ)
def L3(x0:api_Table)(x1:List api_FD)(x2:List api_MVD)(x3:api_MVD)(z0:ByteArray)(z1:List ByteArray)(z2:List api_Row)(z3 r3:List Int)(z4:Int)(φ:api_Table×Int->Prop):Prop:=Pt env 23 W B [1,1,1,1,1,0,1,0,0,1,1,1] [(0,.agg [.lit (.string x0.Name),.sl (x0.Attrs.map eS),.sl (x0.Rows.map Aa0)]),(1,.sl (x1.map Aa6)),(2,.sl (x2.map Aa5)),(3,.agg [.lit (.int .u32 x3.Lhs),.lit (.int .u32 x3.Rhs)]),(4,.box [.lit (.string x0.Name),.sl (x0.Attrs.map eS),.sl (x0.Rows.map Aa0)]),(7,.box [.lit (.int .u32 x3.Lhs),.lit (.int .u32 x3.Rhs)]),(8,.box [.lit (.string (⟨#[]⟩:ByteArray)),.own [],.own []]),(10,.box [.lit (.string z0),.own (z1.map eS),.own (z2.map Aa7)]),(11,.own (z3.map (eI .i64))),(35,.sl (r3.map (eI .u32))),(36,.lit (.int .i64 (r3.length:Int))),(37,.lit (.int .i64 z4))] (Lv env 23 Tryz.f23 4 res φ)
def L4(x0:api_Table)(x1:List api_FD)(x2:List api_MVD)(x3:api_MVD)(z0:ByteArray)(z1:List ByteArray)(z2:List api_Row)(z3 z4 r3:List Int)(z5:Int)(φ:api_Table×Int->Prop):Prop:=Pt env 23 W B [1,1,1,1,1,0,1,0,0,1,1,0,0,1,1,1,1,0] [(0,.agg [.lit (.string x0.Name),.sl (x0.Attrs.map eS),.sl (x0.Rows.map Aa0)]),(1,.sl (x1.map Aa6)),(2,.sl (x2.map Aa5)),(3,.agg [.lit (.int .u32 x3.Lhs),.lit (.int .u32 x3.Rhs)]),(4,.box [.lit (.string x0.Name),.sl (x0.Attrs.map eS),.sl (x0.Rows.map Aa0)]),(7,.box [.lit (.int .u32 x3.Lhs),.lit (.int .u32 x3.Rhs)]),(8,.box [.lit (.string (⟨#[]⟩:ByteArray)),.own [],.own []]),(10,.box [.lit (.string z0),.own (z1.map eS),.own (z2.map Aa7)]),(11,.own (z3.map (eI .i64))),(14,.own (z4.map (eI .i64))),(35,.sl (r3.map (eI .u32))),(36,.lit (.int .i64 (r3.length:Int))),(37,.lit (.int .i64 z5))] (Lv env 23 Tryz.f23 4 res φ)
theorem L1_step(x0:api_Table)(x1:List api_FD)(x2:List api_MVD)(x3:api_MVD)(z0:ByteArray)(z1:List ByteArray)(z2:List api_Row)(z3 r3:List Int)(z4:Int)(φ:api_Table×Int->Prop)(h:(if z4<(r3.length:Int)then ∃a4,lget r3 z4=some a4/\∃r6:List Int,q76_.C a4 r6/\L2 x0 x1 x2 x3 z0 z1 z2 z3 ([]) r3 z4 r6 0 φ else φ ((⟨z0,z1,z2⟩:api_Table),0))):L1 x0 x1 x2 x3 z0 z1 z2 z3 r3 z4 φ:=mIn<|mAsk 2 h dT dF (fun h=>mIx 4 (eI .u32) h fun a4 h5 h=>mCal 8 h (fun _ h=>h) (hf:=(fun _=>Aao (Aa8 (e:=(eI .i64)) (fun _=>rfl)) rfl)) fun r6 _ h=>mLen 0 (eI .i64) r6<|mFin 2 h) fun h=>mRet 8 h
theorem L2_step(x0:api_Table)(x1:List api_FD)(x2:List api_MVD)(x3:api_MVD)(z0:ByteArray)(z1:List ByteArray)(z2:List api_Row)(z3 z4 r3:List Int)(z5:Int)(r6:List Int)(z6:Int)(φ:api_Table×Int->Prop)(h:(if z6<(r6.length:Int)then ∃a7,lget r6 z6=some a7/\∃a9,lget x0.Rows a7=some a9/\(z4.length+1)*8<=140737488355328/\L2 x0 x1 x2 x3 z0 z1 z2 z3 (z4++[a9.ID]) r3 z5 r6 (IntKind.wrap .i64 (z6+1)) φ else(if z0.toList=(⟨#[]⟩:ByteArray).toList then L4 x0 x1 x2 x3 z0 z1 z2 z3 z4 r3 z5 φ else(if(z3.length:Int)<(z4.length:Int)then L3 x0 x1 x2 x3 z0 z1 z2 z3 r3 z5 φ else ∃r12:Int,q26_.C z4 z3 r12/\(if 0<r12 then L3 x0 x1 x2 x3 z0 z1 z2 z3 r3 z5 φ else L4 x0 x1 x2 x3 z0 z1 z2 z3 z4 r3 z5 φ))))):L2 x0 x1 x2 x3 z0 z1 z2 z3 z4 r3 z5 r6 z6 φ:=mIn<|mAsk 2 h dT dF (fun h=>mIy 4 (eI .i64) h fun a7 h8 h=>mLd 0 (eI .i64) h8<|mIx 7 Aa0 h fun a9 h10 h=>mApp 3 (eI .i64) z4 ([a9.ID]) h fun h=>mFin 6 h) fun h=>Abs 6 h (fun h=>Al7 (Awu h)) (fun h=>Al8 (Awt h)) (fun h=>mLen 2 (eI .i64) z4<|mLen 1 (eI .i64) z3<|mAsk 0 h dT dF (fun h=>mFin 10 h) fun h=>mCal 3 h (fun _ h=>h) (hr:=by exact(Ab5 (Aav (s:=14) (ps:=[]) (l:=z4) (e:=(eI .i64)) (e':=(eI .i64)) (fun _=>rfl) (by kernel_rfl)) (Ab5 (Aav (s:=11) (ps:=[]) (l:=z3) (e:=(eI .i64)) (e':=(eI .i64)) (fun _=>rfl) (by kernel_rfl)) Ac7))) fun r12 _ h=>mAsk 0 h dT dF (fun h=>mFin 5 h) fun h=>mFin 5 h) fun h=>mFin 16 h
theorem L3_step(x0:api_Table)(x1:List api_FD)(x2:List api_MVD)(x3:api_MVD)(z0:ByteArray)(z1:List ByteArray)(z2:List api_Row)(z3 r3:List Int)(z4:Int)(φ:api_Table×Int->Prop)(h:L1 x0 x1 x2 x3 z0 z1 z2 z3 r3 (IntKind.wrap .i64 (z4+1)) φ):L3 x0 x1 x2 x3 z0 z1 z2 z3 r3 z4 φ:=mIn<|mFin 4 h
theorem L4_step(x0:api_Table)(x1:List api_FD)(x2:List api_MVD)(x3:api_MVD)(z0:ByteArray)(z1:List ByteArray)(z2:List api_Row)(z3 z4 r3:List Int)(z5:Int)(φ:api_Table×Int->Prop)(h:∃r13:api_Table,q118_.C x0 z4 r13/\∃r14:Bool,q109_.C r13 x1 x2 x3 r14/\(if r14=true then L3 x0 x1 x2 x3 r13.Name r13.Attrs r13.Rows z4 r3 z5 φ else L3 x0 x1 x2 x3 z0 z1 z2 z3 r3 z5 φ)):L4 x0 x1 x2 x3 z0 z1 z2 z3 z4 r3 z5 φ:=mIn<|mCal 3 h (fun _ h=>h) (hr:=by exact(pr_k (Ab5 (Aav (s:=14) (ps:=[]) (l:=z4) (e:=(eI .i64)) (e':=(eI .i64)) (fun _=>rfl) (by kernel_rfl)) Ac7))) (hf:=(fun _=>Aao (Acy (Aa3 rfl (Aa3 (Aa8 (e:=eS) (fun _=>rfl)) (Aa3 (Aa8 (e:=Aa7) (fun _=>(Aa3 rfl (Aa3 (Aa8 (e:=Aa2) (fun _=>rfl)) Aa9)))) Aa9)))) rfl)) fun r13 _ h=>Aaw 8 h (fun _ h=>h) (hr:=by exact(Ab5 (Agu (Aax (d:=.lit (.string r13.Name)) (d':=.lit (.string r13.Name)) (by kernel_rfl) (Aax (d:=.alias 17 [(0,1)]) (d':=.sl (r13.Attrs.map eS)) (Aav (s:=17) (ps:=[(0,1)]) (l:=r13.Attrs) (e:=eS) (e':=eS) (fun _=>rfl) (by kernel_rfl)) (Aax (d:=.alias 17 [(0,2)]) (d':=.sl (r13.Rows.map Aa0)) (Aav (s:=17) (ps:=[(0,2)]) (l:=r13.Rows) (e:=Aa7) (e':=Aa0) (fun x=>(Aat rfl (Aat (Abi (e:=Aa2) (e':=Aa2) (fun _=>rfl) x.Values) Adg))) (by kernel_rfl)) Aem)))) (pr_k (pr_k (pr_k Ac7))))) (fun _ h=>mFin 8 h) fun _ h=>mFin 3 h
theorem enter(x0:api_Table)(x1:List api_FD)(x2:List api_MVD)(x3:api_MVD)(φ:api_Table×Int->Prop)(h:∃r1:Bool,q109_.C x0 x1 x2 x3 r1/\(if r1=true then(if 10<(x0.Rows.length:Int)then φ ((⟨(⟨#[]⟩:ByteArray),[],[]⟩:api_Table),3)else 0<=(x0.Rows.length:Int)/\∃r3:List Int,q84_.C (IntKind.wrap .u32 ((shlw .u32 1 (x0.Rows.length:Int))-1)) r3/\L1 x0 x1 x2 x3 (⟨#[]⟩:ByteArray) ([]) ([]) ([]) r3 0 φ)else φ ((⟨(⟨#[]⟩:ByteArray),[],[]⟩:api_Table),1))):∃r,φ r/\C x0 x1 x2 x3 r:=mEnt (fd:=Tryz.f23) (body:=B) (V:=W) (res:=res)<|Aaw 11 h (fun _ h=>h) (fun _ h=>mLen 7 Aa0 x0.Rows<|mAsk 0 h dT dF (fun h=>mRet 7 h) fun h=>mLen 12 Aa0 x0.Rows<|h.elim fun h2 h=>mBi 0 (Alo (t:=34) (q:=.u32) (q':=.i64) (i1:=1) h2)<|mCal 1 h (fun _ h=>h) (hf:=(fun _=>Afd)) fun r3 _ h=>mLen 0 (eI .u32) r3<|mFin 2 h) fun _ h=>mRet 8 h
end q90_
namespace q56_
noncomputable def B:Code:=(Tryz.f55.body).getD .skip
def W:List Nat:=[0,1,4,5,10,19,30]
def res(r:Bool):D×List D:=(.lit (.bool r),[])
def C(x0 x1:List Int)(r:Bool):Prop:=Ret env 55 [.sl (x0.map (eI .i64)),.sl (x1.map (eI .i64))] (res r).1 (res r).2
def L1(x0 x1:List Int)(z0:Int)(φ:Bool->Prop):Prop:=Pt env 55 W B [1,1,0,1,0] [(0,.sl (x0.map (eI .i64))),(1,.sl (x1.map (eI .i64))),(5,.lit (.int .i64 z0))] (Lv env 55 Tryz.f55 2 res φ)
theorem L1_step(x0 x1:List Int)(z0:Int)(φ:Bool->Prop)(h:(if z0<(x0.length:Int)then ∃a1,lget x0 z0=some a1/\∃a3,lget x1 z0=some a3/\(if a1=a3 then L1 x0 x1 (IntKind.wrap .i64 (z0+1)) φ else φ (decide (a1<a3)))else φ false)):L1 x0 x1 z0 φ:=mIn<|mLen 4 (eI .i64) x0<|mAsk 0 h dT dF (fun h=>mIx 6 (eI .i64) h fun a1 h2 h=>mIx 3 (eI .i64) h fun a3 h4 h=>Abs 1 h Aby Abx (fun h=>mIxf 5 (eI .i64) h2<|mIxf 3 (eI .i64) h4<|mRet 4 h) fun h=>mFin 8 h) fun h=>mRet 6 h
theorem enter(x0 x1:List Int)(φ:Bool->Prop)(h:(if(x0.length:Int)=(x1.length:Int)then L1 x0 x1 0 φ else φ (decide ((x0.length:Int)<(x1.length:Int))))):∃r,φ r/\C x0 x1 r:=mEnt (fd:=Tryz.f55) (body:=B) (V:=W) (res:=res)<|mLen 5 (eI .i64) x0<|mLen 1 (eI .i64) x1<|Abs 0 h Aby Abx (fun h=>mLen 4 (eI .i64) x0<|mLen 1 (eI .i64) x1<|mRet 3 h) fun h=>mFin 6 h
end q56_
namespace q95_
noncomputable def B:Code:=(Tryz.f54.body).getD .skip
def W:List Nat:=[0,1,2,4,5,6,11,18]
def res(r:List Int):D×List D:=(.own (r.map (eI .i64)),[])
def C(x0:api_Table)(x1:Int)(r:List Int):Prop:=Ret env 54 [.agg [.lit (.string x0.Name),.sl (x0.Attrs.map eS),.sl (x0.Rows.map Aa0)],.lit (.int .i64 x1)] (res r).1 (res r).2
def L1(x0:api_Table)(x1:Int)(z0:List Int)(z1:Int)(φ:List Int->Prop):Prop:=Pt env 54 W B [1,1,0,1,0] [(0,.agg [.lit (.string x0.Name),.sl (x0.Attrs.map eS),.sl (x0.Rows.map Aa0)]),(1,.lit (.int .i64 x1)),(2,.box [.lit (.string x0.Name),.sl (x0.Attrs.map eS),.sl (x0.Rows.map Aa0)]),(5,.own (z0.map (eI .i64))),(6,.lit (.int .i64 z1))] (Lv env 54 Tryz.f54 2 res φ)
def L2(x0:api_Table)(x1:Int)(z0:List Int)(z1:Int)(φ:List Int->Prop):Prop:=Pt env 54 W B [1,1,0,1,0,0,1,1] [(0,.agg [.lit (.string x0.Name),.sl (x0.Attrs.map eS),.sl (x0.Rows.map Aa0)]),(1,.lit (.int .i64 x1)),(2,.box [.lit (.string x0.Name),.sl (x0.Attrs.map eS),.sl (x0.Rows.map Aa0)]),(5,.own (z0.map (eI .i64))),(6,.lit (.int .i64 z1))] (Lv env 54 Tryz.f54 2 res φ)
theorem L1_step(x0:api_Table)(x1:Int)(z0:List Int)(z1:Int)(φ:List Int->Prop)(h:(if z1<(x0.Rows.length:Int)then 0<=z1/\(if(Int.tmod (shrw .i64 x1 z1) 2)=1 then ∃a2,lget x0.Rows z1=some a2/\(z0.length+1)*8<=140737488355328/\L2 x0 x1 (z0++[a2.ID]) z1 φ else L2 x0 x1 z0 z1 φ)else φ z0)):L1 x0 x1 z0 z1 φ:=mIn<|mLen 5 Aa0 x0.Rows<|mAsk 0 h dT dF (fun h=>h.elim fun h1 h=>mBi 6 (Ajn (t:=3) (q:=.i64) (q':=.i64) (i1:=x1) h1)<|mAsk 1 h Ab8 Ab7 (fun h=>mIx 7 Aa0 h fun a2 h3 h=>mApp 3 (eI .i64) z0 ([a2.ID]) h fun h=>mFin 2 h) fun h=>mFin 3 h) fun h=>mRet 7 h
theorem L2_step(x0:api_Table)(x1:Int)(z0:List Int)(z1:Int)(φ:List Int->Prop)(h:L1 x0 x1 z0 (IntKind.wrap .i64 (z1+1)) φ):L2 x0 x1 z0 z1 φ:=mIn<|mFin 5 h
theorem enter(x0:api_Table)(x1:Int)(φ:List Int->Prop)(h:L1 x0 x1 ([]) 0 φ):∃r,φ r/\C x0 x1 r:=mEnt (fd:=Tryz.f54) (body:=B) (V:=W) (res:=res)<|mFin 10 h
end q95_
namespace q41_
noncomputable def B:Code:=(Tryz.f24.body).getD .skip
def W:List Nat:=[0,1,2,3,4,7,8,9,10,11,12,18,23,37,54]
def res(r:api_Table×Int):D×List D:=(.tup [.agg [.lit (.string r.1.Name),.own (r.1.Attrs.map eS),.own (r.1.Rows.map Aa7)],.lit (.int .i64 r.2)],[])
def C(x0:api_Table)(x1:List api_FD)(x2:List api_MVD)(x3:api_MVD)(r:api_Table×Int):Prop:=Ret env 24 [.agg [.lit (.string x0.Name),.sl (x0.Attrs.map eS),.sl (x0.Rows.map Aa0)],.sl (x1.map Aa6),.sl (x2.map Aa5),.agg [.lit (.int .u32 x3.Lhs),.lit (.int .u32 x3.Rhs)]] (res r).1 (res r).2
def L1(x0:api_Table)(x1:List api_FD)(x2:List api_MVD)(x3:api_MVD)(r3:List Int)(z0:Int)(φ:api_Table×Int->Prop):Prop:=Pt env 24 W B [1,1,1,1,0,1,0] [(0,.agg [.lit (.string x0.Name),.sl (x0.Attrs.map eS),.sl (x0.Rows.map Aa0)]),(1,.sl (x1.map Aa6)),(2,.sl (x2.map Aa5)),(3,.agg [.lit (.int .u32 x3.Lhs),.lit (.int .u32 x3.Rhs)]),(4,.box [.lit (.string x0.Name),.sl (x0.Attrs.map eS),.sl (x0.Rows.map Aa0)]),(7,.box [.lit (.int .u32 x3.Lhs),.lit (.int .u32 x3.Rhs)]),(8,.box [.lit (.string (⟨#[]⟩:ByteArray)),.own [],.own []]),(10,.own (r3.map (eI .i64))),(11,.lit (.int .i64 z0))] (Lv env 24 Tryz.f24 4 res φ)
def L2(x0:api_Table)(x1:List api_FD)(x2:List api_MVD)(x3:api_MVD)(r5:List Int)(z0:Int)(φ:api_Table×Int->Prop):Prop:=Pt env 24 W B [1,1,1,1,0,1,0,0,1,1] [(0,.agg [.lit (.string x0.Name),.sl (x0.Attrs.map eS),.sl (x0.Rows.map Aa0)]),(1,.sl (x1.map Aa6)),(2,.sl (x2.map Aa5)),(3,.agg [.lit (.int .u32 x3.Lhs),.lit (.int .u32 x3.Rhs)]),(4,.box [.lit (.string x0.Name),.sl (x0.Attrs.map eS),.sl (x0.Rows.map Aa0)]),(7,.box [.lit (.int .u32 x3.Lhs),.lit (.int .u32 x3.Rhs)]),(8,.box [.lit (.string (⟨#[]⟩:ByteArray)),.own [],.own []]),(10,.own (r5.map (eI .i64))),(11,.lit (.int .i64 z0))] (Lv env 24 Tryz.f24 4 res φ)
theorem L1_step(x0:api_Table)(x1:List api_FD)(x2:List api_MVD)(x3:api_MVD)(r3:List Int)(z0:Int)(φ:api_Table×Int->Prop)(h:0<=(x0.Rows.length:Int)/\(if z0<(shlw .i64 1 (x0.Rows.length:Int))then ∃r5:List Int,q95_.C x0 z0 r5/\∃r6:Bool,q56_.C r5 r3 r6/\(if r6=true then ∃r7:api_Table,q89_.C x0 r5 r7/\∃r8:Bool,q72_.C r7 x1 x2 x3 r8/\(if r8=true then L2 x0 x1 x2 x3 r5 z0 φ else L2 x0 x1 x2 x3 r3 z0 φ)else L2 x0 x1 x2 x3 r3 z0 φ)else ∃r9:api_Table,q89_.C x0 r3 r9/\φ (r9,0))):L1 x0 x1 x2 x3 r3 z0 φ:=mIn<|mLen 5 Aa0 x0.Rows<|h.elim fun h4 h=>mBi 0 (Alo (t:=3) (q:=.i64) (q':=.i64) (i1:=1) h4)<|mAsk 0 h dT dF (fun h=>mCal 6 h (fun _ h=>h) (hf:=(fun _=>Aao (Aa8 (e:=(eI .i64)) (fun _=>rfl)) rfl)) fun r5 _ h=>Aaw 5 h (fun _ h=>h) (hr:=by exact(Ab5 (Aav (s:=12) (ps:=[]) (l:=r5) (e:=(eI .i64)) (e':=(eI .i64)) (fun _=>rfl) (by kernel_rfl)) (Ab5 (Aav (s:=10) (ps:=[]) (l:=r3) (e:=(eI .i64)) (e':=(eI .i64)) (fun _=>rfl) (by kernel_rfl)) Ac7))) (fun _ h=>mLo 3 h (fun _ h=>h) (hr:=by exact(pr_k (Ab5 (Aav (s:=12) (ps:=[]) (l:=r5) (e:=(eI .i64)) (e':=(eI .i64)) (fun _=>rfl) (by kernel_rfl)) Ac7))) (hf:=(fun _=>Aia (Acy (Aa3 rfl (Aa3 (Aa8 (e:=eS) (fun _=>rfl)) (Aa3 (Aa8 (e:=Aa7) (fun _=>(Aa3 rfl (Aa3 (Aa8 (e:=Aa2) (fun _=>rfl)) Aa9)))) Aa9)))))) fun r7 _ h=>Aaw 3 h (fun _ h=>h) (hr:=by exact(Ab5 (Agu (Aax (d:=.lit (.string r7.Name)) (d':=.lit (.string r7.Name)) (by kernel_rfl) (Aax (d:=.alias 49 [(0,1)]) (d':=.sl (r7.Attrs.map eS)) (Aav (s:=49) (ps:=[(0,1)]) (l:=r7.Attrs) (e:=eS) (e':=eS) (fun _=>rfl) (by kernel_rfl)) (Aax (d:=.alias 49 [(0,2)]) (d':=.sl (r7.Rows.map Aa0)) (Aav (s:=49) (ps:=[(0,2)]) (l:=r7.Rows) (e:=Aa7) (e':=Aa0) (fun x=>(Aat rfl (Aat (Abi (e:=Aa2) (e':=Aa2) (fun _=>rfl) x.Values) Adg))) (by kernel_rfl)) Aem)))) (pr_k (pr_k (pr_k Ac7))))) (fun _ h=>
 mFin 7 h) fun _ h=>mFin 4 h) fun _ h=>mFin 12 h) fun h=>mCal 6 h (fun _ h=>h) (hr:=by exact(pr_k (Ab5 (Aav (s:=10) (ps:=[]) (l:=r3) (e:=(eI .i64)) (e':=(eI .i64)) (fun _=>rfl) (by kernel_rfl)) Ac7))) (hf:=(fun _=>Aao (Acy (Aa3 rfl (Aa3 (Aa8 (e:=eS) (fun _=>rfl)) (Aa3 (Aa8 (e:=Aa7) (fun _=>(Aa3 rfl (Aa3 (Aa8 (e:=Aa2) (fun _=>rfl)) Aa9)))) Aa9)))) rfl)) fun r9 _ h=>mRet 3 h
theorem L2_step(x0:api_Table)(x1:List api_FD)(x2:List api_MVD)(x3:api_MVD)(r5:List Int)(z0:Int)(φ:api_Table×Int->Prop)(h:L1 x0 x1 x2 x3 r5 (IntKind.wrap .i64 (z0+1)) φ):L2 x0 x1 x2 x3 r5 z0 φ:=mIn<|mFin 5 h
theorem enter(x0:api_Table)(x1:List api_FD)(x2:List api_MVD)(x3:api_MVD)(φ:api_Table×Int->Prop)(h:∃r1:Bool,q72_.C x0 x1 x2 x3 r1/\(if r1=true then(if 10<(x0.Rows.length:Int)then φ ((⟨(⟨#[]⟩:ByteArray),[],[]⟩:api_Table),3)else 0<=(x0.Rows.length:Int)/\∃r3:List Int,q95_.C x0 (IntKind.wrap .i64 ((shlw .i64 1 (x0.Rows.length:Int))-1)) r3/\L1 x0 x1 x2 x3 r3 0 φ)else φ ((⟨(⟨#[]⟩:ByteArray),[],[]⟩:api_Table),1))):∃r,φ r/\C x0 x1 x2 x3 r:=mEnt (fd:=Tryz.f24) (body:=B) (V:=W) (res:=res)<|Aaw 11 h (fun _ h=>h) (fun _ h=>mLen 7 Aa0 x0.Rows<|mAsk 0 h dT dF (fun h=>mRet 7 h) fun h=>mLen 7 Aa0 x0.Rows<|h.elim fun h2 h=>mBi 0 (Alo (t:=3) (q:=.i64) (q':=.i64) (i1:=1) h2)<|mCal 1 h (fun _ h=>h) (hf:=(fun _=>Aao (Aa8 (e:=(eI .i64)) (fun _=>rfl)) rfl)) fun r3 _ h=>mFin 5 h) fun _ h=>mRet 8 h
end q41_
namespace q111_
def res(r:api_Table×Int):D×List D:=(.tup [.agg [.lit (.string r.1.Name),.own (r.1.Attrs.map eS),.own (r.1.Rows.map Aa7)],.lit (.int .i64 r.2)],[])
def C(x0:Int)(x1:List api_FD)(x2:List api_MVD)(x3:api_FD)(r:api_Table×Int):Prop:=Ret env 11 [.lit (.int .i64 x0),.sl (x1.map Aa6),.sl (x2.map Aa5),.agg [.lit (.int .u32 x3.Lhs),.lit (.int .u32 x3.Rhs)]] (res r).1 (res r).2
end q111_
namespace q73_
noncomputable def B:Code:=(Tryz.f9.body).getD .skip
def W:List Nat:=[0,1,2,3,4,5,6,7,8,9,10]
def res(r:Bool):D×List D:=(.lit (.bool r),[])
def C  (r:Bool):Prop:=Ret env 9 [] (res r).1 (res r).2
theorem enter  (φ:Bool->Prop) (h:∃r1:api_Table×Int,q121_.C 3 ([(⟨1,2⟩:api_FD)]) (⟨1,4⟩:api_FD) r1/\∃r2:api_Table×Int,q102_.C 3 ([(⟨1,2⟩:api_FD)]) (⟨1,4⟩:api_FD) r2/\∃r3:api_Table×Int,q111_.C 3 ([]) ([(⟨1,2⟩:api_MVD)]) (⟨1,2⟩:api_FD) r3/\∃r4:api_Table×Int,q121_.C 3 ([(⟨1,2⟩:api_FD)]) (⟨5,2⟩:api_FD) r4/\(if r1.2=0 then ∃r5:Bool,q69_.C r1.1 r2.1 r5/\(if r5=true then(if(r2.1.Rows.length:Int)=2 then(if r3.2=0 then ∃r6:Int,q59_.C r3.1 r6/\(if r6=0 then(if(r3.1.Attrs.length:Int)=3 then ∃r7:Bool,q70_.C r3.1 ([]) ([(⟨1,2⟩:api_MVD)]) r7/\(if r7=true then ∃r8:Bool,q35_.C r3.1 (⟨1,2⟩:api_FD) r8/\(if r8=true then φ false else φ (r4.2==10))else φ false)else φ false)else φ false)else φ false)else φ false)else φ false)else φ false)):∃r,φ r/\C  r:=mEnt (fd:=Tryz.f9) (body:=B) (V:=W) (res:=res)<|mCal 11 h (fun _ h=>h) (hr:=by exact(pr_k (Ab5 (Aav (s:=1) (ps:=[]) (l:=[(⟨1,2⟩:api_FD)]) (e:=Aa6) (e':=Aa6) (fun _=>rfl) (by kernel_rfl)) (pr_k Ac7)))) (hf:=(fun _=>Aao (Ab1 (Aa3 (Acy (Aa3 rfl (Aa3 (Aa8 (e:=eS) (fun _=>rfl)) (Aa3 (Aa8 (e:=Aa7) (fun _=>(Aa3 rfl (Aa3 (Aa8 (e:=Aa2) (fun _=>rfl)) Aa9)))) Aa9)))) (Aa3 rfl Aa9))) rfl)) fun r1 _ h=>mCal 10 h (fun _ h=>h) (hr:=by exact(pr_k (Ab5 (Aav (s:=1) (ps:=[]) (l:=[(⟨1,2⟩:api_FD)]) (e:=Aa6) (e':=Aa6) (fun _=>rfl) (by kernel_rfl)) (pr_k Ac7)))) (hf:=(fun _=>Aao (Ab1 (Aa3 (Acy (Aa3 rfl (Aa3 (Aa8 (e:=eS) (fun _=>rfl)) (Aa3 (Aa8 (e:=Aa7) (fun _=>(Aa3 rfl (Aa3 (Aa8 (e:=Aa2) (fun _=>rfl)) Aa9)))) Aa9)))) (Aa3 rfl Aa9))) rfl)) fun r2 _ h=>
 mCal 15 h (fun _ h=>h) (hr:=by exact(pr_k (pr_k (Ab5 (Aav (s:=6) (ps:=[]) (l:=[(⟨1,2⟩:api_MVD)]) (e:=Aa5) (e':=Aa5) (fun _=>rfl) (by kernel_rfl)) (pr_k Ac7))))) (hf:=(fun _=>Aao (Ab1 (Aa3 (Acy (Aa3 rfl (Aa3 (Aa8 (e:=eS) (fun _=>rfl)) (Aa3 (Aa8 (e:=Aa7) (fun _=>(Aa3 rfl (Aa3 (Aa8 (e:=Aa2) (fun _=>rfl)) Aa9)))) Aa9)))) (Aa3 rfl Aa9))) rfl)) fun r3 _ h=>mCal 10 h (fun _ h=>h) (hr:=by exact(pr_k (Ab5 (Aav (s:=1) (ps:=[]) (l:=[(⟨1,2⟩:api_FD)]) (e:=Aa6) (e':=Aa6) (fun _=>rfl) (by kernel_rfl)) (pr_k Ac7)))) (hf:=(fun _=>Aao (Ab1 (Aa3 (Acy (Aa3 rfl (Aa3 (Aa8 (e:=eS) (fun _=>rfl)) (Aa3 (Aa8 (e:=Aa7) (fun _=>(Aa3 rfl (Aa3 (Aa8 (e:=Aa2) (fun _=>rfl)) Aa9)))) Aa9)))) (Aa3 rfl Aa9))) rfl)) fun r4 _ h=>mAsk 9 h Ab8 Ab7 (fun h=>Aaw 3 h (fun _ h=>h) (hr:=by exact(Ab5 (Agu (Aax (d:=.lit (.string r1.1.Name)) (d':=.lit (.string r1.1.Name)) (by kernel_rfl) (Aax (d:=.alias 2 [(0,1)]) (d':=.sl (r1.1.Attrs.map eS)) (Aav (s:=2) (ps:=[(0,1)]) (l:=r1.1.Attrs) (e:=eS) (e':=eS) (fun _=>rfl) (by kernel_rfl)) (Aax (d:=.alias 2 [(0,2)]) (d':=.sl (r1.1.Rows.map Aa0)) (Aav (s:=2) (ps:=[(0,2)]) (l:=r1.1.Rows) (e:=Aa7) (e':=Aa0) (fun x=>(Aat rfl (Aat (Abi (e:=Aa2) (e':=Aa2) (fun _=>rfl) x.Values) Adg))) (by kernel_rfl)) Aem)))) (Ab5 (Agu (Aax (d:=.lit (.string r2.1.Name)) (d':=.lit (.string r2.1.Name)) (by kernel_rfl) (Aax (d:=.alias 4 [(0,1)]) (d':=.sl (r2.1.Attrs.map eS)) (Aav (s:=4) (ps:=[(0,1)]) (l:=r2.1.Attrs) (e:=eS) (e':=eS) (fun _=>rfl) (by kernel_rfl)) (Aax (d:=.alias 4 [(0,2)]) (d':=.sl (r2.1.Rows.map Aa0)) (Aav (s:=4) (ps:=[(0,2)]) (l:=r2.1.Rows) (e:=Aa7) (e':=Aa0) (fun x=>(Aat rfl (Aat (Abi (e:=Aa2) (e':=Aa2) (fun _=>rfl) x.Values) Adg))) (by kernel_rfl)) Aem)))) Ac7))) (fun _ h=>
 mLen 4 Aa7 r2.1.Rows<|mAsk 0 h Ab8 Ab7 (fun h=>mAsk 3 h Ab8 Ab7 (fun h=>mCal 3 h (fun _ h=>h) (hr:=by exact(Ab5 (Agu (Aax (d:=.lit (.string r3.1.Name)) (d':=.lit (.string r3.1.Name)) (by kernel_rfl) (Aax (d:=.alias 7 [(0,1)]) (d':=.sl (r3.1.Attrs.map eS)) (Aav (s:=7) (ps:=[(0,1)]) (l:=r3.1.Attrs) (e:=eS) (e':=eS) (fun _=>rfl) (by kernel_rfl)) (Aax (d:=.alias 7 [(0,2)]) (d':=.sl (r3.1.Rows.map Aa0)) (Aav (s:=7) (ps:=[(0,2)]) (l:=r3.1.Rows) (e:=Aa7) (e':=Aa0) (fun x=>(Aat rfl (Aat (Abi (e:=Aa2) (e':=Aa2) (fun _=>rfl) x.Values) Adg))) (by kernel_rfl)) Aem)))) Ac7)) fun r6 _ h=>mAsk 0 h Ab8 Ab7 (fun h=>mLen 4 eS r3.1.Attrs<|mAsk 0 h Ab8 Ab7 (fun h=>Aaw 4 h (fun _ h=>h) (hr:=by exact(Ab5 (Agu (Aax (d:=.lit (.string r3.1.Name)) (d':=.lit (.string r3.1.Name)) (by kernel_rfl) (Aax (d:=.alias 7 [(0,1)]) (d':=.sl (r3.1.Attrs.map eS)) (Aav (s:=7) (ps:=[(0,1)]) (l:=r3.1.Attrs) (e:=eS) (e':=eS) (fun _=>rfl) (by kernel_rfl)) (Aax (d:=.alias 7 [(0,2)]) (d':=.sl (r3.1.Rows.map Aa0)) (Aav (s:=7) (ps:=[(0,2)]) (l:=r3.1.Rows) (e:=Aa7) (e':=Aa0) (fun x=>(Aat rfl (Aat (Abi (e:=Aa2) (e':=Aa2) (fun _=>rfl) x.Values) Adg))) (by kernel_rfl)) Aem)))) (pr_k (Ab5 (Aav (s:=6) (ps:=[]) (l:=[(⟨1,2⟩:api_MVD)]) (e:=Aa5) (e':=Aa5) (fun _=>rfl) (by kernel_rfl)) Ac7)))) (fun _ h=>
 Aaw 4 h (fun _ h=>h) (hr:=by exact(Ab5 (Agu (Aax (d:=.lit (.string r3.1.Name)) (d':=.lit (.string r3.1.Name)) (by kernel_rfl) (Aax (d:=.alias 7 [(0,1)]) (d':=.sl (r3.1.Attrs.map eS)) (Aav (s:=7) (ps:=[(0,1)]) (l:=r3.1.Attrs) (e:=eS) (e':=eS) (fun _=>rfl) (by kernel_rfl)) (Aax (d:=.alias 7 [(0,2)]) (d':=.sl (r3.1.Rows.map Aa0)) (Aav (s:=7) (ps:=[(0,2)]) (l:=r3.1.Rows) (e:=Aa7) (e':=Aa0) (fun x=>(Aat rfl (Aat (Abi (e:=Aa2) (e':=Aa2) (fun _=>rfl) x.Values) Adg))) (by kernel_rfl)) Aem)))) (pr_k Ac7))) (fun _ h=>mRet 8 h) fun _ h=>mRet 8 h) fun _ h=>mRet 13 h) fun h=>mRet 18 h) fun h=>mRet 24 h) fun h=>mRet 29 h) fun h=>mRet 33 h) fun _ h=>mRet 39 h) fun h=>mRet 43 h
end q73_
end Go.Own
