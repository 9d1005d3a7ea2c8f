/- What the functions answer. No conditions. -/
import Derived.Test.YtmiedlcblpiemaaGreatDoorBase5
import Derived.Test.YtmiedlcblpiemaaGreatDoorOwn23
set_option linter.all false
open List renaming pairwise_cons->zA,mem_of_getElem?->zB,mem_cons->zC,replicate->zD,length_cons->zF,getElem?_cons_succ->zG,take->zH,length_map->zI,take_of_length_le->zK,take_add_one->zL,mem_append->zM,map_append->zN,getElem?_eq_some_iff->zO,mem_singleton->zQ,filter_append->zR,getElem?_eq_getElem->zS,getElem?_append_right->zU,getElem?_map->zV,range->zW,take_length->zX,length_singleton->zY,set_append_right->zZ,mem_iff_getElem?->yA,replicate_succ->yB,filter_eq_self->yC,set_cons_zero->yD,mem_map->yE,pairwise_map->yG,filter_congr->yH,cons_append->yJ,range_succ->yK,mem_filter->yL
open Option.some renaming inj->zE
open Classical renaming byContradiction->zP
open Int renaming toNat_natCast->zT
open Bool renaming false_eq_true->yF
open Nat renaming le_refl->yI
noncomputable section
namespace Go.Own
open Go.Proofs D
set_option maxRecDepth 100000
set_option maxHeartbeats 4000000
namespace q17_
def B:=bd Tryz.f106
def W:=[0,1,4,5,7,8,9,16]
def res(r:Int):D×List D:=(iL r,[])
def C(x0:List ByteArray)(x1:ByteArray)(r:Int):Prop:=Ret env 106 [.sl (x0.map eS),tL x1] (res r).1 (res r).2
def L1(x0:List ByteArray)(x1:ByteArray)(z0:Int)(J:Int->Prop):Prop:=Pt env 106 W B [1,0,1,0] [(0,.sl (x0.map eS)),(1,tL x1),(7,iL (x0.length:Int)),(8,iL z0)] (Lv env 106 Tryz.f106 2 res J)
def K1(x0:List ByteArray)(x1:ByteArray)(z0:Int)(J:Int->Prop)(h:(if z0<(x0.length:Int)then ∃a1,lget x0 z0=some a1/\(if x1.toList=a1.toList then J z0 else L1 x0 x1 (IntKind.wrap .i64 (z0+1)) J)else J (-1))):L1 x0 x1 z0 J:=mIn<|mAsk 2 h dT dF (fun h=>mIx 11 eS h fun a1 h2 h=>mAsk 1 h Aux Auw (fun h=>mRet 6 h) fun h=>mFin 7 h) fun h=>mRet 6 h
def nt(x0:List ByteArray)(x1:ByteArray)(J:Int->Prop)(h:L1 x0 x1 0 J):∃r,J r/\C x0 x1 r:=mE Tryz.f106 B W res<|mLen 5 eS x0<|mFin 2 h
end q17_
namespace q15_
def B:=bd Tryz.f85
def W:=[0,1,4]
def res(r:Bool):D×List D:=(bL r,[])
def C(x0:List ByteArray)(x1:ByteArray)(r:Bool):Prop:=Ret env 85 [.sl (x0.map eS),tL x1] (res r).1 (res r).2
def nt(x0:List ByteArray)(x1:ByteArray)(J:Bool->Prop)(h:∃r1:Int,q17_.C x0 x1 r1/\J (decide (0<=r1))):∃r,J r/\C x0 x1 r:=mE Tryz.f85 B W res<|mCal 6 h (fun _ h=>h) fun r1 _ h=>mRet 3 h
end q15_
namespace q99_
def B:=bd Tryz.f84
def W:=[0,2,3,4,5,16,18,19,20,56]
def res(r:Bool):D×List D:=(bL r,[])
def C(x0:ByteArray)(r:Bool):Prop:=Ret env 84 [tL x0] (res r).1 (res r).2
def L1(x0:ByteArray)(z0:Int)(J:Bool->Prop):Prop:=Pt env 84 W B [1,1,0,1,0] [(0,tL x0),(18,iL (Ads x0)),(19,iL z0)] (Lv env 84 Tryz.f84 1 res J)
def L2(x0:ByteArray)(z0 z1:Int)(z2:Bool)(J:Bool->Prop):Prop:=Pt env 84 W B [1,1,0,1,0,0,1,1,0,0,1,1,1,0] [(0,tL x0),(3,iL z0),(4,.lit (.int .u8 z1)),(5,bL z2),(18,iL (Ads x0)),(19,iL z0)] (Lv env 84 Tryz.f84 1 res J)
def L3(x0:ByteArray)(z0:Int)(J:Bool->Prop):Prop:=Pt env 84 W B [1,1,0,1,0,0,1,1,1] [(0,tL x0),(18,iL (Ads x0)),(19,iL z0)] (Lv env 84 Tryz.f84 1 res J)
def K1(x0:ByteArray)(z0:Int)(J:Bool->Prop)(h:(if z0<(Ads x0)then ∃b1,((0:Int)<=z0/\x0[z0.toNat]?=some b1)/\(if 97<=(u8i b1)then(if(u8i b1)<=122 then L2 x0 z0 (u8i b1) true J else(if 65<=(u8i b1)then(if(u8i b1)<=90 then L2 x0 z0 (u8i b1) true J else L2 x0 z0 (u8i b1) ((u8i b1)==95) J)else L2 x0 z0 (u8i b1) ((u8i b1)==95) J))else(if 65<=(u8i b1)then(if(u8i b1)<=90 then L2 x0 z0 (u8i b1) true J else L2 x0 z0 (u8i b1) ((u8i b1)==95) J)else L2 x0 z0 (u8i b1) ((u8i b1)==95) J))else J true)):L1 x0 z0 J:=mIn<|mAsk 2 h dT dF (fun h=>mSt 10 h fun b1 h=>mAsk 4 h dT dF (fun h=>mAsk 2 h dT dF (fun h=>mFin 15 h) fun h=>mAsk 3 h dT dF (fun h=>mAsk 2 h dT dF (fun h=>mFin 8 h) fun h=>mFin 8 h) fun h=>mFin 11 h) fun h=>mAsk 6 h dT dF (fun h=>mAsk 2 h dT dF (fun h=>mFin 8 h) fun h=>mFin 8 h) fun h=>mFin 11 h) fun h=>mRet 6 h
def K2(x0:ByteArray)(z0 z1:Int)(z2:Bool)(J:Bool->Prop)(h:(if z2=true then L3 x0 z0 J else(if z0=0 then J false else(if z1<48 then J false else(if 57<z1 then J false else L3 x0 z0 J))))):L2 x0 z0 z1 z2 J:=mIn<|mAsk 1 h id fls (fun h=>mFin 16 h) fun h=>mAsk 3 h Abd Abc (fun h=>mRet 14 h) fun h=>mAsk 2 h dT dF (fun h=>mRet 11 h) fun h=>mAsk 3 h dT dF (fun h=>mRet 7 h) fun h=>mFin 5 h
def K3(x0:ByteArray)(z0:Int)(J:Bool->Prop)(h:L1 x0 (IntKind.wrap .i64 (z0+1)) J):L3 x0 z0 J:=mIn<|mFin 4 h
def nt(x0:ByteArray)(J:Bool->Prop)(h:(if x0.toList=(⟨#[]⟩:ByteArray).toList then J false else(if 24<(Ads x0)then J false else(if x0.toList=(⟨#[110,117,108,108]⟩:ByteArray).toList then J false else L1 x0 0 J)))):∃r,J r/\C x0 r:=mE Tryz.f84 B W res<|mAsk 5 h Aux Auw (fun h=>mRet 14 h) fun h=>mAsk 3 h dT dF (fun h=>mRet 10 h) fun h=>mAsk 3 h Aux Auw (fun h=>mRet 6 h) fun h=>mFin 9 h
end q99_
namespace q108_
def B:=bd Tryz.f109
def W:=[0,1,2,4,5,15,20,31]
def res(r:Bool):D×List D:=(bL r,[])
def C(x0:api_Value)(r:Bool):Prop:=Ret env 109 [.agg [iL x0.Kind,iL x0.Num,tL x0.Str]] (res r).1 (res r).2
def nt(x0:api_Value)(J:Bool->Prop)(h:(if x0.Kind=0 then(if x0.Num=0 then J (x0.Str.toList==(⟨#[]⟩:ByteArray).toList)else J false)else(if x0.Kind=1 then J (x0.Str.toList==(⟨#[]⟩:ByteArray).toList)else(if x0.Kind=2 then(if x0.Num=0 then J (decide ((Ads x0.Str)<=200))else J false)else(if x0.Kind=3 then(if 1<=x0.Num then J (x0.Str.toList==(⟨#[]⟩:ByteArray).toList)else J false)else J false))))):∃r,J r/\C x0 r:=mE Tryz.f109 B W res<|mCon 12 h Abd Abc (fun h=>mAsk 3 h Abd Abc (fun h=>mRet 7 h) fun h=>mRet 7 h) fun h=>mCon 4 h Abd Abc (fun h=>mRet 6 h) fun h=>mCon 4 h Abd Abc (fun h=>mAsk 3 h Abd Abc (fun h=>mRet 8 h) fun h=>mRet 8 h) fun h=>mCon 4 h Abd Abc (fun h=>mAsk 3 h dT dF (fun h=>mRet 7 h) fun h=>mRet 7 h) fun h=>mRet 4 h
end q108_
namespace q27_
def B:=bd Tryz.f108
def W:=[0,1,2]
def res(r:Bool):D×List D:=(bL r,[])
def C(x0:api_Value)(r:Bool):Prop:=Ret env 108 [.agg [iL x0.Kind,iL x0.Num,tL x0.Str]] (res r).1 (res r).2
def nt(x0:api_Value)(J:Bool->Prop)(h:∃r1:Bool,q108_.C x0 r1/\J (not r1)):∃r,J r/\C x0 r:=mE Tryz.f108 B W res<|mCal 6 h (fun _ h=>h) fun r1 _ h=>mRet 3 h
end q27_
namespace q1_
def B:=bd Tryz.f133
def W:=[0,1,4,5,7,8,9,16]
def res(r:Int):D×List D:=(iL r,[])
def C(x0:List api_Value)(r:Int):Prop:=Ret env 133 [.sl (x0.map Aa1),.fn 108 []] (res r).1 (res r).2
def L1(x0:List api_Value)(z0:Int)(J:Int->Prop):Prop:=Pt env 133 W B [1,0,1,0] [(0,.sl (x0.map Aa1)),(1,.fn 108 []),(7,iL (x0.length:Int)),(8,iL z0)] (Lv env 133 Tryz.f133 2 res J)
def K1(x0:List api_Value)(z0:Int)(J:Int->Prop)(h:(if z0<(x0.length:Int)then ∃a1,lget x0 z0=some a1/\∃r3:Bool,q27_.C a1 r3/\(if r3=true then J z0 else L1 x0 (IntKind.wrap .i64 (z0+1)) J)else J (-1))):L1 x0 z0 J:=mIn<|mAsk 2 h dT dF (fun h=>mIx 11 Aa1 h fun a1 h2 h=>Ab3 1 h (fun _ h=>h) (fun _ h=>mRet 6 h) fun _ h=>mFin 7 h) fun h=>mRet 6 h
def nt(x0:List api_Value)(J:Int->Prop)(h:L1 x0 0 J):∃r,J r/\C x0 r:=mE Tryz.f133 B W res<|mLen 5 Aa1 x0<|mFin 2 h
end q1_
namespace q0_
def B:=bd Tryz.f107
def W:=[0,1,4]
def res(r:Bool):D×List D:=(bL r,[])
def C(x0:List api_Value)(r:Bool):Prop:=Ret env 107 [.sl (x0.map Aa1),.fn 108 []] (res r).1 (res r).2
def nt(x0:List api_Value)(J:Bool->Prop)(h:∃r1:Int,q1_.C x0 r1/\J (decide (0<=r1))):∃r,J r/\C x0 r:=mE Tryz.f107 B W res<|mCal 6 h (fun _ h=>h) fun r1 _ h=>mRet 3 h
end q0_
namespace q38_
def B:=bd Tryz.f86
def W:=[0,2]
def res(r:Bool):D×List D:=(bL r,[])
def C(x0:List api_Value)(r:Bool):Prop:=Ret env 86 [.sl (x0.map Aa1)] (res r).1 (res r).2
def nt(x0:List api_Value)(J:Bool->Prop)(h:∃r1:Bool,q0_.C x0 r1/\J (not r1)):∃r,J r/\C x0 r:=mE Tryz.f86 B W res<|mCal 5 h (fun _ h=>h) fun r1 _ h=>mRet 3 h
end q38_
namespace q109_
def B:=bd Tryz.f42
def W:=[0,1,2,3,4,5,7,11,21,23,24,25,26,40,43,44,45,46,49,54,62]
def res(r:Int):D×List D:=(iL r,[])
def C(x0:api_Table)(r:Int):Prop:=Ret env 42 [.agg [tL x0.Name,.sl (x0.Attrs.map eS),.sl (x0.Rows.map Aa2)]] (res r).1 (res r).2
def L1(x0:api_Table)(z0:Int)(J:Int->Prop):Prop:=Pt env 42 W B [1,1,1,0,1,0] [(0,.agg [tL x0.Name,.sl (x0.Attrs.map eS),.sl (x0.Rows.map Aa2)]),(1,.box [tL x0.Name,.sl (x0.Attrs.map eS),.sl (x0.Rows.map Aa2)]),(23,.sl (x0.Attrs.map eS)),(24,iL (x0.Attrs.length:Int)),(25,iL z0)] (Lv env 42 Tryz.f42 1 res J)
def L2(x0:api_Table)(z0 z1:Int)(J:Int->Prop):Prop:=Pt env 42 W B [1,1,1,1,1,0,1,0] [(0,.agg [tL x0.Name,.sl (x0.Attrs.map eS),.sl (x0.Rows.map Aa2)]),(1,.box [tL x0.Name,.sl (x0.Attrs.map eS),.sl (x0.Rows.map Aa2)]),(5,iL z0),(43,.sl (x0.Rows.map Aa2)),(44,iL (x0.Rows.length:Int)),(45,iL z1)] (Lv env 42 Tryz.f42 1 res J)
def K1(x0:api_Table)(z0:Int)(J:Int->Prop)(h:(if z0<(x0.Attrs.length:Int)then ∃a2,lget x0.Attrs z0=some a2/\∃r4:Bool,q99_.C a2 r4/\(if r4=true then 0<=z0/\(0<=z0.toNat/\z0.toNat<=x0.Attrs.length)/\∃r7:Bool,q15_.C (zH (z0.toNat-0) x0.Attrs) a2 r7/\(if r7=true then J 1 else L1 x0 (IntKind.wrap .i64 (z0+1)) J)else J 1)else L2 x0 0 0 J)):L1 x0 z0 J:=mIn<|mAsk 2 h dT dF (fun h=>mIx 5 eS h fun a2 h3 h=>Ab3 6 h (fun _ h=>h) (fun _ h=>h.elim fun h5 h=>h.elim fun h6 h=>mVl 5 (Aqm (t:=37) (x:=(.tmp 35)) (lo:=none) (hi:=(some (.tmp 36))) (lo':=none) (hi':=some z0.toNat) (e:=eS) (l:=x0.Attrs) (et:=9) (k:=1) (by kernel_rfl) (by kernel_rfl) Afv (Aeo (i:=z0) (q:=.i64) (by kernel_rfl) h5) (by kernel_rfl) (by kernel_rfl) (fun _=>rfl) (by kernel_rfl) h6.1 h6.2)<|Ab3 1 h (fun _ h=>h) (fun _ h=>mRet 6 h) fun _ h=>mFin 8 h) fun _ h=>mRet 14 h) fun h=>mLen 9 Aa2 x0.Rows<|mFin 2 h
def K2(x0:api_Table)(z0 z1:Int)(J:Int->Prop)(h:(if z1<(x0.Rows.length:Int)then ∃a8,lget x0.Rows z1=some a8/\(if a8.ID<=z0 then J 1 else(if(a8.Values.length:Int)=(x0.Attrs.length:Int)then ∃r10:Bool,q38_.C a8.Values r10/\(if r10=true then L2 x0 a8.ID (IntKind.wrap .i64 (z1+1)) J else J 1)else J 6))else J 0)):L2 x0 z0 z1 J:=mIn<|mAsk 2 h dT dF (fun h=>mIx 4 Aa2 h fun a8 h9 h=>mCon 11 h dT dF (fun h=>mRet 3 h) fun h=>mLen 3 Aa1 a8.Values<|mLen 2 eS x0.Attrs<|Bj6 3 h Abm Abl (fun h=>mRet 3 h) fun h=>mCal 3 h (fun _ h=>h) fun r10 _ h=>Bj6 3 h (fun h=>fls (Bp2 h)) (fun h=>id (Bp1 h)) (fun h=>mRet 3 h) fun h=>mFin 10 h) fun h=>mRet 6 h
def nt(x0:api_Table)(J:Int->Prop)(h:∃r1:Bool,q99_.C x0.Name r1/\(if r1=true then(if 16<(x0.Attrs.length:Int)then J 3 else(if 1000<(x0.Rows.length:Int)then J 3 else L1 x0 0 J))else J 1)):∃r,J r/\C x0 r:=mE Tryz.f42 B W res<|Ab3 7 h (fun _ h=>h) (fun _ h=>mLen 7 eS x0.Attrs<|mAsk 0 h dT dF (fun h=>mRet 11 h) fun h=>mLen 3 Aa2 x0.Rows<|mAsk 0 h dT dF (fun h=>mRet 6 h) fun h=>mLen 7 eS x0.Attrs<|mFin 2 h) fun _ h=>mRet 6 h
end q109_
namespace q48_
def B:=bd Tryz.f79
def W:=[0,1,2,4,5,15,20]
def res(r:Bool):D×List D:=(bL r,[])
def C(x0:api_Value)(r:Bool):Prop:=Ret env 79 [.agg [iL x0.Kind,iL x0.Num,tL x0.Str]] (res r).1 (res r).2
def nt(x0:api_Value)(J:Bool->Prop)(h:(if x0.Kind=0 then(if x0.Num=0 then J (x0.Str.toList==(⟨#[]⟩:ByteArray).toList)else J false)else(if x0.Kind=1 then J (x0.Str.toList==(⟨#[]⟩:ByteArray).toList)else(if x0.Kind=2 then(if x0.Num=0 then J (decide ((Ads x0.Str)<=200))else J false)else(if x0.Kind=3 then(if 1<=x0.Num then J (x0.Str.toList==(⟨#[]⟩:ByteArray).toList)else J false)else J false))))):∃r,J r/\C x0 r:=mE Tryz.f79 B W res<|mCon 12 h Abd Abc (fun h=>mAsk 3 h Abd Abc (fun h=>mRet 7 h) fun h=>mRet 7 h) fun h=>mCon 4 h Abd Abc (fun h=>mRet 6 h) fun h=>mCon 4 h Abd Abc (fun h=>mAsk 3 h Abd Abc (fun h=>mRet 8 h) fun h=>mRet 8 h) fun h=>mAsk 4 h Abd Abc (fun h=>mAsk 3 h dT dF (fun h=>mRet 8 h) fun h=>mRet 8 h) fun h=>mRet 12 h
end q48_
namespace q39_
def B:=bd Tryz.f39
def W:=[0,2,3,7,15]
def res(r:Bool):D×List D:=(bL r,[])
def C(x0:List api_Value)(r:Bool):Prop:=Ret env 39 [.sl (x0.map Aa1)] (res r).1 (res r).2
def L1(x0:List api_Value)(z0:Int)(J:Bool->Prop):Prop:=Pt env 39 W B [1,0,1,0] [(0,.sl (x0.map Aa1)),(3,iL z0)] (Lv env 39 Tryz.f39 1 res J)
def K1(x0:List api_Value)(z0:Int)(J:Bool->Prop)(h:(if z0<(x0.length:Int)then ∃a1,lget x0 z0=some a1/\∃r3:Bool,q48_.C a1 r3/\(if r3=true then L1 x0 (IntKind.wrap .i64 (z0+1)) J else J false)else J true)):L1 x0 z0 J:=mIn<|mLen 4 Aa1 x0<|mAsk 0 h dT dF (fun h=>mIx 6 Aa1 h fun a1 h2 h=>Ab3 1 h (fun _ h=>h) (fun _ h=>mFin 9 h) fun _ h=>mRet 6 h) fun h=>mRet 6 h
def nt(x0:List api_Value)(J:Bool->Prop)(h:L1 x0 0 J):∃r,J r/\C x0 r:=mE Tryz.f39 B W res<|mFin 6 h
end q39_
namespace q40_
def B:=bd Tryz.f77
def W:=[0,2]
def res(r:Bool):D×List D:=(bL r,[])
def C(x0:Int)(r:Bool):Prop:=Ret env 77 [.lit (.int .u8 x0)] (res r).1 (res r).2
def nt(x0:Int)(J:Bool->Prop)(h:(if 97<=x0 then(if x0<=122 then J true else(if 65<=x0 then(if x0<=90 then J true else J (x0==95))else J (x0==95)))else(if 65<=x0 then(if x0<=90 then J true else J (x0==95))else J (x0==95)))):∃r,J r/\C x0 r:=mE Tryz.f77 B W res<|mAsk 5 h dT dF (fun h=>mAsk 2 h dT dF (fun h=>mRet 15 h) fun h=>mAsk 3 h dT dF (fun h=>mAsk 2 h dT dF (fun h=>mRet 8 h) fun h=>mRet 8 h) fun h=>mRet 11 h) fun h=>mAsk 6 h dT dF (fun h=>mAsk 2 h dT dF (fun h=>mRet 8 h) fun h=>mRet 8 h) fun h=>mRet 11 h
end q40_
namespace q67_
def B:=bd Tryz.f37
def W:=[0,2,3,21,25,44]
def res(r:Bool):D×List D:=(bL r,[])
def C(x0:ByteArray)(r:Bool):Prop:=Ret env 37 [tL x0] (res r).1 (res r).2
def L1(x0:ByteArray)(z0:Int)(J:Bool->Prop):Prop:=Pt env 37 W B [1,1,0,1,0] [(0,tL x0),(3,iL z0)] (Lv env 37 Tryz.f37 1 res J)
def L2(x0:ByteArray)(z0:Int)(J:Bool->Prop):Prop:=Pt env 37 W B [1,1,0,1,0,0,1,1] [(0,tL x0),(3,iL z0)] (Lv env 37 Tryz.f37 1 res J)
def K1(x0:ByteArray)(z0:Int)(J:Bool->Prop)(h:(if z0<(Ads x0)then ∃b5,((0:Int)<=z0/\x0[z0.toNat]?=some b5)/\∃r8:Bool,q40_.C (u8i b5) r8/\(if r8=true then L2 x0 z0 J else ∃b9,((0:Int)<=z0/\x0[z0.toNat]?=some b9)/\(if(u8i b9)<48 then J false else ∃b12,((0:Int)<=z0/\x0[z0.toNat]?=some b12)/\(if 57<(u8i b12)then J false else L2 x0 z0 J)))else J true)):L1 x0 z0 J:=mIn<|mAsk 5 h dT dF (fun h=>mSt 6 h fun b5 h=>Ab3 0 h (fun _ h=>h) (fun _ h=>mFin 16 h) fun _ h=>mSt 4 h fun b9 h=>mAsk 0 h dT dF (fun h=>mRet 12 h) fun h=>mSt 3 h fun b12 h=>mAsk 0 h dT dF (fun h=>mRet 7 h) fun h=>mFin 5 h) fun h=>mRet 6 h
def K2(x0:ByteArray)(z0:Int)(J:Bool->Prop)(h:L1 x0 (IntKind.wrap .i64 (z0+1)) J):L2 x0 z0 J:=mIn<|mFin 5 h
def nt(x0:ByteArray)(J:Bool->Prop)(h:(if(Ads x0)=0 then J false else(if 24<(Ads x0)then J false else ∃b1,((0:Int)<=0/\x0[(0:Int).toNat]?=some b1)/\∃r4:Bool,q40_.C (u8i b1) r4/\(if r4=true then(if x0.toList=(⟨#[110,117,108,108]⟩:ByteArray).toList then J false else L1 x0 0 J)else J false)))):∃r,J r/\C x0 r:=mE Tryz.f37 B W res<|mAsk 6 h Abd Abc (fun h=>mRet 20 h) fun h=>mAsk 3 h dT dF (fun h=>mRet 16 h) fun h=>mSt 3 h fun b1 h=>Ab3 0 h (fun _ h=>h) (fun _ h=>mAsk 4 h Aux Auw (fun h=>mRet 6 h) fun h=>mFin 7 h) fun _ h=>mRet 11 h
end q67_
namespace q68_
def B:=bd Tryz.f78
def W:=[0,1,4,5,9,17]
def res(r:Int):D×List D:=(iL r,[])
def C(x0:List ByteArray)(x1:ByteArray)(r:Int):Prop:=Ret env 78 [.sl (x0.map eS),tL x1] (res r).1 (res r).2
def L1(x0:List ByteArray)(x1:ByteArray)(z0:Int)(J:Int->Prop):Prop:=Pt env 78 W B [1,0,1,0] [(0,.sl (x0.map eS)),(1,tL x1),(5,iL z0)] (Lv env 78 Tryz.f78 2 res J)
def K1(x0:List ByteArray)(x1:ByteArray)(z0:Int)(J:Int->Prop)(h:(if z0<(x0.length:Int)then ∃a1,lget x0 z0=some a1/\(if a1.toList=x1.toList then J z0 else L1 x0 x1 (IntKind.wrap .i64 (z0+1)) J)else J (-1))):L1 x0 x1 z0 J:=mIn<|mLen 4 eS x0<|mAsk 0 h dT dF (fun h=>mIx 6 eS h fun a1 h2 h=>mAsk 2 h Aux Auw (fun h=>mRet 6 h) fun h=>mFin 8 h) fun h=>mRet 6 h
def nt(x0:List ByteArray)(x1:ByteArray)(J:Int->Prop)(h:L1 x0 x1 0 J):∃r,J r/\C x0 x1 r:=mE Tryz.f78 B W res<|mFin 6 h
end q68_
namespace q49_
def B:=bd Tryz.f38
def W:=[0,2,3,7,26]
def res(r:Bool):D×List D:=(bL r,[])
def C(x0:List ByteArray)(r:Bool):Prop:=Ret env 38 [.sl (x0.map eS)] (res r).1 (res r).2
def L1(x0:List ByteArray)(z0:Int)(J:Bool->Prop):Prop:=Pt env 38 W B [1,0,1,0] [(0,.sl (x0.map eS)),(3,iL z0)] (Lv env 38 Tryz.f38 1 res J)
def K1(x0:List ByteArray)(z0:Int)(J:Bool->Prop)(h:(if z0<(x0.length:Int)then ∃a1,lget x0 z0=some a1/\∃r3:Bool,q67_.C a1 r3/\(if r3=true then 0<=z0/\(0<=z0.toNat/\z0.toNat<=x0.length)/\∃r6:Int,q68_.C (zH (z0.toNat-0) x0) a1 r6/\(if 0<=r6 then J false else L1 x0 (IntKind.wrap .i64 (z0+1)) J)else J false)else J true)):L1 x0 z0 J:=mIn<|mLen 4 eS x0<|mAsk 0 h dT dF (fun h=>mIx 6 eS h fun a1 h2 h=>Ab3 1 h (fun _ h=>h) (fun _ h=>h.elim fun h4 h=>h.elim fun h5 h=>mVl 4 (Aqm (t:=37) (x:=(.tmp 17)) (lo:=none) (hi:=(some (.tmp 18))) (lo':=none) (hi':=some z0.toNat) (e:=eS) (l:=x0) (et:=9) (k:=1) (by kernel_rfl) (by kernel_rfl) Afv (Aeo (i:=z0) (q:=.i64) (by kernel_rfl) h4) (by kernel_rfl) (by kernel_rfl) (fun _=>rfl) (by kernel_rfl) h5.1 h5.2)<|mIxf 2 eS h2<|mCal 1 h (fun _ h=>h) fun r6 _ h=>mAsk 0 h dT dF (fun h=>mRet 6 h) fun h=>mFin 9 h) fun _ h=>mRet 17 h) fun h=>mRet 6 h
def nt(x0:List ByteArray)(J:Bool->Prop)(h:L1 x0 0 J):∃r,J r/\C x0 r:=mE Tryz.f38 B W res<|mFin 6 h
end q49_
namespace q50_
def B:=bd Tryz.f14
def W:=[0,1,2,3,4,5,9,19,23,28,39,48,52]
def res(r:Int):D×List D:=(iL r,[])
def C(x0:api_Table)(r:Int):Prop:=Ret env 14 [.agg [tL x0.Name,.sl (x0.Attrs.map eS),.sl (x0.Rows.map Aa2)]] (res r).1 (res r).2
def L1(x0:api_Table)(z0 z1:Int)(J:Int->Prop):Prop:=Pt env 14 W B [1,1,1,1,1,0,1,0] [(0,.agg [tL x0.Name,.sl (x0.Attrs.map eS),.sl (x0.Rows.map Aa2)]),(1,.box [tL x0.Name,.sl (x0.Attrs.map eS),.sl (x0.Rows.map Aa2)]),(3,iL z0),(4,iL z1)] (Lv env 14 Tryz.f14 1 res J)
def K1(x0:api_Table)(z0 z1:Int)(J:Int->Prop)(h:(if z1<(x0.Rows.length:Int)then ∃a3,lget x0.Rows z1=some a3/\(if a3.ID<=z0 then J 1 else(if(a3.Values.length:Int)=(x0.Attrs.length:Int)then ∃r5:Bool,q39_.C a3.Values r5/\(if r5=true then L1 x0 a3.ID (IntKind.wrap .i64 (z1+1)) J else J 1)else J 6))else J 0)):L1 x0 z0 z1 J:=mIn<|mLen 5 Aa2 x0.Rows<|mAsk 0 h dT dF (fun h=>mIx 7 Aa2 h fun a3 h4 h=>mAsk 8 h dT dF (fun h=>mRet 5 h) fun h=>mLen 11 Aa1 a3.Values<|mLen 2 eS x0.Attrs<|Abr 0 h Abm Abl (fun h=>mRet 5 h) fun h=>Ab3 6 h (fun _ h=>h) (fun _ h=>mFin 9 h) fun _ h=>mRet 6 h) fun h=>mRet 6 h
def nt(x0:api_Table)(J:Int->Prop)(h:∃r1:Bool,q67_.C x0.Name r1/\(if r1=true then(if 16<(x0.Attrs.length:Int)then J 3 else(if 1000<(x0.Rows.length:Int)then J 3 else ∃r2:Bool,q49_.C x0.Attrs r2/\(if r2=true then L1 x0 0 0 J else J 1)))else J 1)):∃r,J r/\C x0 r:=mE Tryz.f14 B W res<|Ab3 7 h (fun _ h=>h) (fun _ h=>mLen 7 eS x0.Attrs<|mAsk 0 h dT dF (fun h=>mRet 11 h) fun h=>mLen 3 Aa2 x0.Rows<|mAsk 0 h dT dF (fun h=>mRet 6 h) fun h=>Ab3 7 h (fun _ h=>h) (fun _ h=>mFin 10 h) fun _ h=>mRet 6 h) fun _ h=>mRet 6 h
end q50_
namespace q69_
def B:=bd Tryz.f51
def W:=[0,2,3,5]
def res(r:List Int):D×List D:=(.own (r.map (eI .i64)),[])
def C(x0:Int)(r:List Int):Prop:=Ret env 51 [uL x0] (res r).1 (res r).2
def L1(x0:Int)(z0:List Int)(J:List Int->Prop):Prop:=Pt env 51 W B [1,1,0,0] [(0,uL x0),(3,.own (z0.map (eI .i64)))] (Lv env 51 Tryz.f51 1 res J)
def K1(x0:Int)(z0:List Int)(J:List Int->Prop)(h:(if x0=0 then J z0 else(0<=x0/\x0<4294967296)/\(z0.length+1)*8<=140737488355328/\L1 (bAnd .u32 x0 (IntKind.wrap .u32 (x0-1))) (z0++[(tz32 x0)]) J)):L1 x0 z0 J:=mIn<|Abr 3 h Abm Abl (fun h=>h.elim fun h1 h=>Aoa 6 (show Ret env 95 [uL x0] (iL (tz32 x0)) []from Bgh (by kernel_rfl) h1)<|mApp 1 (eI .i64) z0 ([(tz32 x0)]) h fun h=>mFin 9 h) fun h=>mRet 7 h
def nt(x0:Int)(J:List Int->Prop)(h:L1 x0 ([]) J):∃r,J r/\C x0 r:=mE Tryz.f51 B W res<|mFin 6 h
end q69_
namespace q70_
def B:=bd Tryz.f30
def W:=[0,2,3,4,11]
def res(r:Int):D×List D:=(uL r,[])
def C(x0 r:Int):Prop:=Ret env 30 [iL x0] (res r).1 (res r).2
def L1(x0 z0 z1:Int)(J:Int->Prop):Prop:=Pt env 30 W B [1,1,0,1,0] [(0,iL x0),(3,uL z0),(4,iL z1)] (Lv env 30 Tryz.f30 1 res J)
def K1(x0 z0 z1:Int)(J:Int->Prop)(h:(if z1<x0 then(if z1<32 then 0<=z1/\L1 x0 (bOr .u32 z0 (shlw .u32 1 z1)) (IntKind.wrap .i64 (z1+1)) J else J z0)else J z0)):L1 x0 z0 z1 J:=mIn<|mAsk 4 h dT dF (fun h=>mAsk 2 h dT dF (fun h=>h.elim fun h1 h=>mBi 7 (Aqw (t:=34) (q:=.u32) (q':=.i64) (i1:=1) h1)<|mFin 8 h) fun h=>mRet 8 h) fun h=>mRet 11 h
def nt(x0:Int)(J:Int->Prop)(h:L1 x0 0 0 J):∃r,J r/\C x0 r:=mE Tryz.f30 B W res<|mFin 9 h
end q70_
namespace q83_
def B:=bd Tryz.f68
def W:=[0,1,4]
def res(r:Bool):D×List D:=(bL r,[])
def C(x0 x1:Int)(r:Bool):Prop:=Ret env 68 [uL x0,iL x1] (res r).1 (res r).2
def nt(x0 x1:Int)(J:Bool->Prop)(h:(if 0<=x1 then(if x1<32 then 0<=x1/\J ((bAnd .u32 (shrw .u32 x0 x1) 1)==1)else J false)else J false)):∃r,J r/\C x0 x1 r:=mE Tryz.f68 B W res<|mAsk 5 h dT dF (fun h=>mAsk 2 h dT dF (fun h=>h.elim fun h1 h=>mBi 4 (Ahs (t:=34) (q:=.u32) (q':=.i64) (i1:=x0) h1)<|mRet 5 h) fun h=>mRet 10 h) fun h=>mRet 13 h
end q83_
namespace q71_
def B:=bd Tryz.f132
def W:=[0,1,4,7,10]
def res(r:Int):D×List D:=(iL r,[])
def C(x0 x1 r:Int):Prop:=Ret env 132 [iL x0,iL x1] (res r).1 (res r).2
def nt(x0 x1:Int)(J:Int->Prop)(h:(if x0<x1 then J (-1)else(if x1<x0 then J 1 else J 0))):∃r,J r/\C x0 x1 r:=mE Tryz.f132 B W res<|mAsk 6 h dT dF (fun h=>mRet 5 h) fun h=>mAsk 6 h dT dF (fun h=>mRet 5 h) fun h=>mRet 6 h
end q71_
namespace q31_
def B:=bd Tryz.f147
def W:=[0,1,4,5,15,24]
def res(r:Int):D×List D:=(iL r,[])
def C(x0 x1:ByteArray)(r:Int):Prop:=Ret env 147 [tL x0,tL x1] (res r).1 (res r).2
def L1(x0 x1:ByteArray)(z0:Int)(J:Int->Prop):Prop:=Pt env 147 W B [1,0,1,0] [(0,tL x0),(1,tL x1),(5,iL z0)] (Lv env 147 Tryz.f147 2 res J)
def L2(x0 x1:ByteArray)(J:Int->Prop):Prop:=Pt env 147 W B [1,1,0] [(0,tL x0),(1,tL x1)] (Lv env 147 Tryz.f147 2 res J)
def K1(x0 x1:ByteArray)(z0:Int)(J:Int->Prop)(h:(if z0<(Ads x0)then(if z0<(Ads x1)then ∃b1,((0:Int)<=z0/\x0[z0.toNat]?=some b1)/\∃b4,((0:Int)<=z0/\x1[z0.toNat]?=some b4)/\(if(u8i b1)=(u8i b4)then L1 x0 x1 (IntKind.wrap .i64 (z0+1)) J else ∃b7,((0:Int)<=z0/\x0[z0.toNat]?=some b7)/\∃b10,((0:Int)<=z0/\x1[z0.toNat]?=some b10)/\∃r13:Int,q71_.C (IntKind.wrap .i64 (u8i b7)) (IntKind.wrap .i64 (u8i b10)) r13/\J r13)else L2 x0 x1 J)else L2 x0 x1 J)):L1 x0 x1 z0 J:=mIn<|mAsk 5 h dT dF (fun h=>mAsk 4 h dT dF (fun h=>mSt 7 h fun b1 h=>mSt 2 h fun b4 h=>Abr 0 h Abm Abl (fun h=>mSt 5 h fun b7 h=>mSt 3 h fun b10 h=>mCal 1 h (fun _ h=>h) fun r13 _ h=>mRet 2 h) fun h=>mFin 8 h) fun h=>mFin 4 h) fun h=>mFin 9 h
def K2(x0 x1:ByteArray)(J:Int->Prop)(h:∃r14:Int,q71_.C (Ads x0) (Ads x1) r14/\J r14):L2 x0 x1 J:=mIn<|mCal 5 h (fun _ h=>h) fun r14 _ h=>mRet 2 h
def nt(x0 x1:ByteArray)(J:Int->Prop)(h:L1 x0 x1 0 J):∃r,J r/\C x0 x1 r:=mE Tryz.f147 B W res<|mFin 6 h
end q31_
namespace q32_
def B:=bd Tryz.f131
def W:=[0,1,2,3,4,5,6,13,21]
def res(r:Int):D×List D:=(iL r,[])
def C(x0 x1:api_Value)(r:Int):Prop:=Ret env 131 [.agg [iL x0.Kind,iL x0.Num,tL x0.Str],.agg [iL x1.Kind,iL x1.Num,tL x1.Str]] (res r).1 (res r).2
def nt(x0 x1:api_Value)(J:Int->Prop)(h:∃r1:Int,q71_.C x0.Kind x1.Kind r1/\(if r1=0 then ∃r2:Int,q71_.C x0.Num x1.Num r2/\(if r2=0 then ∃r3:Int,q31_.C x0.Str x1.Str r3/\J r3 else J r2)else J r1)):∃r,J r/\C x0 x1 r:=mE Tryz.f131 B W res<|mCal 10 h (fun _ h=>h) fun r1 _ h=>Abr 4 h Abm Abl (fun h=>mRet 6 h) fun h=>mCal 8 h (fun _ h=>h) fun r2 _ h=>Abr 4 h Abm Abl (fun h=>mRet 6 h) fun h=>mCal 8 h (fun _ h=>h) fun r3 _ h=>mRet 2 h
end q32_
namespace q51_
def B:=bd Tryz.f105
def W:=[0,1,4,5,6,16,29]
def res(r:Int):D×List D:=(iL r,[])
def C(x0 x1:List api_Value)(r:Int):Prop:=Ret env 105 [.sl (x0.map Aa1),.sl (x1.map Aa1)] (res r).1 (res r).2
def L1(x0 x1:List api_Value)(z0:Int)(J:Int->Prop):Prop:=Pt env 105 W B [1,0,1,0] [(0,.sl (x0.map Aa1)),(1,.sl (x1.map Aa1)),(5,iL z0)] (Lv env 105 Tryz.f105 2 res J)
def L2(x0 x1:List api_Value)(J:Int->Prop):Prop:=Pt env 105 W B [1,1,0] [(0,.sl (x0.map Aa1)),(1,.sl (x1.map Aa1))] (Lv env 105 Tryz.f105 2 res J)
def K1(x0 x1:List api_Value)(z0:Int)(J:Int->Prop)(h:(if z0<(x0.length:Int)then(if z0<(x1.length:Int)then ∃a1,lget x0 z0=some a1/\∃a3,lget x1 z0=some a3/\∃r5:Int,q32_.C a1 a3 r5/\(if r5=0 then L1 x0 x1 (IntKind.wrap .i64 (z0+1)) J else J r5)else L2 x0 x1 J)else L2 x0 x1 J)):L1 x0 x1 z0 J:=mIn<|mLen 4 Aa1 x0<|mAsk 0 h dT dF (fun h=>mLen 3 Aa1 x1<|mAsk 0 h dT dF (fun h=>mIx 7 Aa1 h fun a1 h2 h=>mIx 3 Aa1 h fun a3 h4 h=>mCal 1 h (fun _ h=>h) fun r5 _ h=>Abr 4 h Abm Abl (fun h=>mRet 6 h) fun h=>mFin 8 h) fun h=>mFin 4 h) fun h=>mFin 9 h
def K2(x0 x1:List api_Value)(J:Int->Prop)(h:∃r6:Int,q71_.C (x0.length:Int) (x1.length:Int) r6/\J r6):L2 x0 x1 J:=mIn<|mLen 2 Aa1 x0<|mLen 1 Aa1 x1<|mCal 0 h (fun _ h=>h) fun r6 _ h=>mRet 2 h
def nt(x0 x1:List api_Value)(J:Int->Prop)(h:L1 x0 x1 0 J):∃r,J r/\C x0 x1 r:=mE Tryz.f105 B W res<|mFin 6 h
end q51_
namespace q72_
def B:=bd Tryz.f82
def W:=[0,1,4]
def res(r:Bool):D×List D:=(bL r,[])
def C(x0 x1:List api_Value)(r:Bool):Prop:=Ret env 82 [.sl (x0.map Aa1),.sl (x1.map Aa1)] (res r).1 (res r).2
def nt(x0 x1:List api_Value)(J:Bool->Prop)(h:∃r1:Int,q51_.C x0 x1 r1/\J (r1==0)):∃r,J r/\C x0 x1 r:=mE Tryz.f82 B W res<|mCal 6 h (fun _ h=>h) fun r1 _ h=>mRet 3 h
end q72_
namespace q100_
def B:=bd Tryz.f137
def W:=[0,1,4,5,6,11]
def res(r:List Int):D×List D:=(.own (r.map (eI .u8)),[])
def C(x1:Int)(k0_0 r:List Int):Prop:=Ret env 137 [.own (k0_0.map (eI .u8)),iL x1] (res r).1 (res r).2
def L1(k0_0:List Int)(z0 z1:Int)(J:List Int->Prop):Prop:=Pt env 137 W B [1,1,0,1,0] [(0,.own (k0_0.map (eI .u8))),(5,.lit (.int .u64 z0)),(6,iL z1)] (Lv env 137 Tryz.f137 2 res J)
def K1(k0_0:List Int)(z0 z1:Int)(J:List Int->Prop)(h:(if 0<=z1 then 0<=z1/\(k0_0.length+1)*1<=140737488355328/\L1 (k0_0++[(IntKind.wrap .u8 (shrw .u64 z0 z1))]) z0 (IntKind.wrap .i64 (z1-8)) J else J k0_0)):L1 k0_0 z0 z1 J:=mIn<|mAsk 3 h dT dF (fun h=>h.elim fun h1 h=>mBi 7 (Ahs (t:=143) (q:=.u64) (q':=.i64) (i1:=z0) h1)<|mApp 2 (eI .u8) k0_0 ([(IntKind.wrap .u8 (shrw .u64 z0 z1))]) h fun h=>mFin 7 h) fun h=>mRet 7 h
def nt(x1:Int)(k0_0:List Int)(J:List Int->Prop)(h:L1 k0_0 (bXor .u64 (IntKind.wrap .u64 x1) 9223372036854775808) 56 J):∃r,J r/\C x1 k0_0 r:=mE Tryz.f137 B W res<|mFin 12 h
end q100_
namespace q116_
def B:=bd Tryz.f116
def W:=[0,1,2,3,4,5,8,14,15,22,26,27,28,41]
def res(r:ByteArray×Int):D×List D:=(.tup [tL r.1,iL r.2],[])
def C(x0:api_Value)(r:ByteArray×Int):Prop:=Ret env 116 [.agg [iL x0.Kind,iL x0.Num,tL x0.Str]] (res r).1 (res r).2
def L2(x0:api_Value)(z0:Bool)(J:ByteArray×Int->Prop):Prop:=Pt env 116 W B [1,1,1,0,1,0,1,0] [(0,.agg [iL x0.Kind,iL x0.Num,tL x0.Str]),(1,.box [iL x0.Kind,iL x0.Num,tL x0.Str]),(4,.own (([(IntKind.wrap .u8 x0.Kind)]).map (eI .u8))),(14,iL x0.Kind),(15,bL z0)] (Lv env 116 Tryz.f116 1 res J)
def L3(x0:api_Value)(J:ByteArray×Int->Prop):Prop:=Pt env 116 W B [1,1,1,0,1,0,1,1,0] [(0,.agg [iL x0.Kind,iL x0.Num,tL x0.Str]),(1,.box [iL x0.Kind,iL x0.Num,tL x0.Str]),(4,.own (([(IntKind.wrap .u8 x0.Kind)]).map (eI .u8))),(14,iL x0.Kind)] (Lv env 116 Tryz.f116 1 res J)
def L1(x0:api_Value)(z0:List Int)(z1:Int)(J:ByteArray×Int->Prop):Prop:=Pt env 116 W B [1,1,1,0,1,0,1,1,1,0,0,1,0] [(0,.agg [iL x0.Kind,iL x0.Num,tL x0.Str]),(1,.box [iL x0.Kind,iL x0.Num,tL x0.Str]),(4,.own (z0.map (eI .u8))),(26,iL (Ads x0.Str)),(27,iL z1)] (Lv env 116 Tryz.f116 1 res J)
def L4(x0:api_Value)(z0:List Int)(z1:Int)(J:ByteArray×Int->Prop):Prop:=Pt env 116 W B [1,1,1,0,1,0,1,1,1,0,0,1,0,0,1,1,1] [(0,.agg [iL x0.Kind,iL x0.Num,tL x0.Str]),(1,.box [iL x0.Kind,iL x0.Num,tL x0.Str]),(4,.own (z0.map (eI .u8))),(26,iL (Ads x0.Str)),(27,iL z1)] (Lv env 116 Tryz.f116 1 res J)
def K2(x0:api_Value)(z0:Bool)(J:ByteArray×Int->Prop)(h:∃r2:List Int,q100_.C x0.Num ([(IntKind.wrap .u8 x0.Kind)]) r2/\(∀x∈r2,0<=x/\x<256)/\J ((Alv r2),0)):L2 x0 z0 J:=mIn<|mCal 4 h (fun _ h=>h) (hf:=(fun _=>Aak (Aaj (e:=(eI .u8)) (fun _=>rfl)) rfl)) fun r2 _ h=>h.elim fun h3 h=>mVl 4 (Aqn (s:=157) (t:=9) (et:=5) (x:=(.tmp 49)) (d:=.alias 4 []) (l:=r2) (by kernel_rfl) (by kernel_rfl) (Agp (by kernel_rfl)) (by kernel_rfl) (by kernel_rfl) (by kernel_rfl) h3)<|mRet 3 h
def K3(x0:api_Value)(J:ByteArray×Int->Prop)(h:(if x0.Kind=2 then L1 x0 ([(IntKind.wrap .u8 x0.Kind)]) 0 J else(∀x∈([(IntKind.wrap .u8 x0.Kind)]),0<=x/\x<256)/\J ((Alv [(IntKind.wrap .u8 x0.Kind)]),0))):L3 x0 J:=mIn<|mCon 4 h Abd Abc (fun h=>mFin 6 h) fun h=>h.elim fun h4 h=>mVl 3 (Aqn (s:=157) (t:=9) (et:=5) (x:=(.tmp 49)) (d:=.alias 4 []) (l:=[(IntKind.wrap .u8 x0.Kind)]) (by kernel_rfl) (by kernel_rfl) (Agp (by kernel_rfl)) (by kernel_rfl) (by kernel_rfl) (by kernel_rfl) h4)<|mRet 3 h
def K1(x0:api_Value)(z0:List Int)(z1:Int)(J:ByteArray×Int->Prop)(h:(if z1<(Ads x0.Str)then ∃b5,((0:Int)<=z1/\x0.Str[z1.toNat]?=some b5)/\(z0.length+1)*1<=140737488355328/\∃b9,((0:Int)<=z1/\x0.Str[z1.toNat]?=some b9)/\(if(u8i b9)=0 then((z0++[(u8i b5)]).length+1)*1<=140737488355328/\L4 x0 ((z0++[(u8i b5)])++[255]) z1 J else L4 x0 (z0++[(u8i b5)]) z1 J)else(z0.length+2)*1<=140737488355328/\(∀x∈(z0++[0,1]),0<=x/\x<256)/\J ((Alv (z0++[0,1])),0))):L1 x0 z0 z1 J:=mIn<|mAsk 2 h dT dF (fun h=>mSt 12 h fun b5 h=>mApp 1 (eI .u8) z0 ([(u8i b5)]) h fun h=>mSt 6 h fun b9 h=>mAsk 0 h Abd Abc (fun h=>mApp 5 (eI .u8) (z0++[(u8i b5)]) ([255]) h fun h=>mFin 2 h) fun h=>mFin 3 h) fun h=>mApp 6 (eI .u8) z0 ([0,1]) h fun h=>h.elim fun h14 h=>mVl 4 (Aqn (s:=157) (t:=9) (et:=5) (x:=(.tmp 49)) (d:=.alias 4 []) (l:=(z0++[0,1])) (by kernel_rfl) (by kernel_rfl) (Agp (by kernel_rfl)) (by kernel_rfl) (by kernel_rfl) (by kernel_rfl) h14)<|mRet 3 h
def K4(x0:api_Value)(z0:List Int)(z1:Int)(J:ByteArray×Int->Prop)(h:L1 x0 z0 (IntKind.wrap .i64 (z1+1)) J):L4 x0 z0 z1 J:=mIn<|mFin 4 h
def nt(x0:api_Value)(J:ByteArray×Int->Prop)(h:∃r1:Bool,q108_.C x0 r1/\(if r1=true then(if x0.Kind=1 then(if x0.Kind=1 then L2 x0 (x0.Kind==1) J else L3 x0 J)else(if x0.Kind=3 then L2 x0 (x0.Kind==3) J else L3 x0 J))else J ((⟨#[]⟩:ByteArray),1))):∃r,J r/\C x0 r:=mE Tryz.f116 B W res<|Ab3 7 h (fun _ h=>h) (fun _ h=>mCon 19 h Abd Abc (fun h=>mCon 1 h Abd Abc (fun h=>mFin 0 h) fun h=>mFin 0 h) fun h=>mCon 4 h Abd Abc (fun h=>mFin 0 h) fun h=>mFin 0 h) fun _ h=>mRet 7 h
end q116_
namespace q41_
def B:=bd Tryz.f83
def W:=[0,1,2,4,5,6,11,16]
def res(r:List api_Value):D×List D:=(.own (r.map Aa1),[])
def C(x0:api_Row)(x1:Int)(r:List api_Value):Prop:=Ret env 83 [.agg [iL x0.ID,.sl (x0.Values.map Aa1)],uL x1] (res r).1 (res r).2
def L1(x0:api_Row)(x1:Int)(z0:List api_Value)(z1:Int)(J:List api_Value->Prop):Prop:=Pt env 83 W B [1,1,0,1,0] [(0,.agg [iL x0.ID,.sl (x0.Values.map Aa1)]),(1,uL x1),(2,.box [iL x0.ID,.sl (x0.Values.map Aa1)]),(5,.own (z0.map Aa1)),(6,iL z1)] (Lv env 83 Tryz.f83 2 res J)
def L2(x0:api_Row)(x1:Int)(z0:List api_Value)(z1:Int)(J:List api_Value->Prop):Prop:=Pt env 83 W B [1,1,0,1,0,0,1,1] [(0,.agg [iL x0.ID,.sl (x0.Values.map Aa1)]),(1,uL x1),(2,.box [iL x0.ID,.sl (x0.Values.map Aa1)]),(5,.own (z0.map Aa1)),(6,iL z1)] (Lv env 83 Tryz.f83 2 res J)
def K1(x0:api_Row)(x1:Int)(z0:List api_Value)(z1:Int)(J:List api_Value->Prop)(h:(if z1<(x0.Values.length:Int)then ∃r1:Bool,q83_.C x1 z1 r1/\(if r1=true then ∃a2,lget x0.Values z1=some a2/\(z0.length+1)*32<=140737488355328/\L2 x0 x1 (z0++[a2]) z1 J else L2 x0 x1 z0 z1 J)else J z0)):L1 x0 x1 z0 z1 J:=mIn<|mLen 5 Aa1 x0.Values<|mAsk 0 h dT dF (fun h=>Ab3 6 h (fun _ h=>h) (fun _ h=>mIx 7 Aa1 h fun a2 h3 h=>mApp 2 Aa1 z0 ([a2]) h fun h=>mFin 2 h) fun _ h=>mFin 3 h) fun h=>mRet 7 h
def K2(x0:api_Row)(x1:Int)(z0:List api_Value)(z1:Int)(J:List api_Value->Prop)(h:L1 x0 x1 z0 (IntKind.wrap .i64 (z1+1)) J):L2 x0 x1 z0 z1 J:=mIn<|mFin 5 h
def nt(x0:api_Row)(x1:Int)(J:List api_Value->Prop)(h:L1 x0 x1 ([]) 0 J):∃r,J r/\C x0 x1 r:=mE Tryz.f83 B W res<|mFin 10 h
end q41_
namespace q52_
def B:=bd Tryz.f41
def W:=[0,1,2,3,4,6]
def res(r:Bool):D×List D:=(bL r,[])
def C(x0 x1:api_Row)(x2:Int)(r:Bool):Prop:=Ret env 41 [.agg [iL x0.ID,.sl (x0.Values.map Aa1)],.agg [iL x1.ID,.sl (x1.Values.map Aa1)],uL x2] (res r).1 (res r).2
def nt(x0 x1:api_Row)(x2:Int)(J:Bool->Prop)(h:∃r1:List api_Value,q41_.C x0 x2 r1/\∃r2:List api_Value,q41_.C x1 x2 r2/\∃r3:Bool,q72_.C r1 r2 r3/\J r3):∃r,J r/\C x0 x1 x2 r:=mE Tryz.f41 B W res<|mLo 8 h (fun _ h=>h) (hf:=(fun _=>Ao9 (Aaj (e:=Aa1) (fun _=>rfl)))) fun r1 _ h=>mCal 2 h (fun _ h=>h) (hf:=(fun _=>Aak (Aaj (e:=Aa1) (fun _=>rfl)) rfl)) fun r2 _ h=>mCal 0 h (fun _ h=>h) (hr:=by exact(Abs (Aba (s:=9) (ps:=[]) (l:=r1) (e:=Aa1) (e':=Aa1) (fun _=>rfl) (by kernel_rfl)) (Abs (Aba (s:=12) (ps:=[]) (l:=r2) (e:=Aa1) (e':=Aa1) (fun _=>rfl) (by kernel_rfl)) Ad2))) fun r3 _ h=>mRet 2 h
end q52_
namespace q84_
def B:=bd Tryz.f12
def W:=[0,1,4]
def res(r:Bool):D×List D:=(bL r,[])
def C(x0 x1:Int)(r:Bool):Prop:=Ret env 12 [uL x0,uL x1] (res r).1 (res r).2
def nt(x0 x1:Int)(J:Bool->Prop)(h:J ((bAnd .u32 x0 x1)==x0)):∃r,J r/\C x0 x1 r:=mE Tryz.f12 B W res<|mRet 11 h
end q84_
namespace q87_
def B:=bd Tryz.f60
def W:=[0,1,4,6,12,15,16,17,18,19,29]
def res(r:Int):D×List D:=(iL r,[])
def C(x0:Int)(x1:List api_FD)(r:Int):Prop:=Ret env 60 [iL x0,.sl (x1.map Aa3)] (res r).1 (res r).2
def L1(x0:Int)(x1:List api_FD)(z0:Int)(J:Int->Prop):Prop:=Pt env 60 W B [1,1,1,0,1,0] [(0,iL x0),(1,.sl (x1.map Aa3)),(16,.sl (x1.map Aa3)),(17,iL (x1.length:Int)),(18,iL z0)] (Lv env 60 Tryz.f60 2 res J)
def K1(x0:Int)(x1:List api_FD)(z0:Int)(J:Int->Prop)(h:(if z0<(x1.length:Int)then ∃a1,lget x1 z0=some a1/\0<=x0/\(if(shrw .u32 (bOr .u32 a1.Lhs a1.Rhs) x0)=0 then L1 x0 x1 (IntKind.wrap .i64 (z0+1)) J else J 1)else J 0)):L1 x0 x1 z0 J:=mIn<|mAsk 2 h dT dF (fun h=>mIx 4 Aa3 h fun a1 h2 h=>h.elim fun h3 h=>mBi 11 (Ahs (t:=34) (q:=.u32) (q':=.i64) (i1:=(bOr .u32 a1.Lhs a1.Rhs)) h3)<|Abr 0 h Abm Abl (fun h=>mRet 5 h) fun h=>mFin 7 h) fun h=>mRet 6 h
def nt(x0:Int)(x1:List api_FD)(J:Int->Prop)(h:(if x0<0 then J 7 else(if 16<x0 then J 7 else(if 64<(x1.length:Int)then J 3 else L1 x0 x1 0 J)))):∃r,J r/\C x0 x1 r:=mE Tryz.f60 B W res<|mAsk 5 h dT dF (fun h=>mRet 9 h) fun h=>mAsk 2 h dT dF (fun h=>mRet 6 h) fun h=>mLen 6 Aa3 x1<|mAsk 0 h dT dF (fun h=>mRet 5 h) fun h=>mLen 5 Aa3 x1<|mFin 2 h
end q87_
namespace q53_
def B:=bd Tryz.f64
def W:=[0,1,4,5,6,12,15,21,41]
def res(r:Int):D×List D:=(iL r,[])
def C(x0:Int)(x1:List api_FD)(r:Int):Prop:=Ret env 64 [iL x0,.sl (x1.map Aa3)] (res r).1 (res r).2
def L1(x1:List api_FD)(r1 z0:Int)(J:Int->Prop):Prop:=Pt env 64 W B [1,1,1,1,0,1,0] [(1,.sl (x1.map Aa3)),(5,uL r1),(6,iL z0)] (Lv env 64 Tryz.f64 2 res J)
def K1(x1:List api_FD)(r1 z0:Int)(J:Int->Prop)(h:(if z0<(x1.length:Int)then ∃a2,lget x1 z0=some a2/\∃r4:Bool,q84_.C a2.Lhs r1 r4/\(if r4=true then ∃r5:Bool,q84_.C a2.Rhs r1 r5/\(if r5=true then L1 x1 r1 (IntKind.wrap .i64 (z0+1)) J else J 1)else J 1)else J 0)):L1 x1 r1 z0 J:=mIn<|mLen 4 Aa3 x1<|mAsk 0 h dT dF (fun h=>mIx 6 Aa3 h fun a2 h3 h=>Ab3 3 h (fun _ h=>h) (fun _ h=>mIxf 4 Aa3 h3<|Ab3 3 h (fun _ h=>h) (fun _ h=>mFin 10 h) fun _ h=>mRet 7 h) fun _ h=>mRet 16 h) fun h=>mRet 6 h
def nt(x0:Int)(x1:List api_FD)(J:Int->Prop)(h:(if x0<0 then J 7 else(if 16<x0 then J 7 else(if 64<(x1.length:Int)then J 3 else ∃r1:Int,q70_.C x0 r1/\L1 x1 r1 0 J)))):∃r,J r/\C x0 x1 r:=mE Tryz.f64 B W res<|mAsk 5 h dT dF (fun h=>mRet 9 h) fun h=>mAsk 2 h dT dF (fun h=>mRet 6 h) fun h=>mLen 6 Aa3 x1<|mAsk 0 h dT dF (fun h=>mRet 5 h) fun h=>mCal 5 h (fun _ h=>h) fun r1 _ h=>mFin 5 h
end q53_
namespace q110_
def B:=bd Tryz.f43
def W:=[0,1,2,6,7,9,14,18,19,20,21,22,32]
def res(r:Int):D×List D:=(iL r,[])
def C(x0:Int)(x1:List api_FD)(x2:List api_MVD)(r:Int):Prop:=Ret env 43 [iL x0,.sl (x1.map Aa3),.sl (x2.map Aa4)] (res r).1 (res r).2
def L1(x0:Int)(x2:List api_MVD)(z0:Int)(J:Int->Prop):Prop:=Pt env 43 W B [1,1,1,0,1,0] [(0,iL x0),(2,.sl (x2.map Aa4)),(19,.sl (x2.map Aa4)),(20,iL (x2.length:Int)),(21,iL z0)] (Lv env 43 Tryz.f43 3 res J)
def K1(x0:Int)(x2:List api_MVD)(z0:Int)(J:Int->Prop)(h:(if z0<(x2.length:Int)then ∃a2,lget x2 z0=some a2/\0<=x0/\(if(shrw .u32 (bOr .u32 a2.Lhs a2.Rhs) x0)=0 then L1 x0 x2 (IntKind.wrap .i64 (z0+1)) J else J 1)else J 0)):L1 x0 x2 z0 J:=mIn<|mAsk 2 h dT dF (fun h=>mIx 4 Aa4 h fun a2 h3 h=>h.elim fun h4 h=>mBi 11 (Ahs (t:=34) (q:=.u32) (q':=.i64) (i1:=(bOr .u32 a2.Lhs a2.Rhs)) h4)<|Abr 0 h Abm Abl (fun h=>mRet 5 h) fun h=>mFin 7 h) fun h=>mRet 6 h
def nt(x0:Int)(x1:List api_FD)(x2:List api_MVD)(J:Int->Prop)(h:∃r1:Int,q87_.C x0 x1 r1/\(if r1=0 then(if 64<(x2.length:Int)then J 3 else L1 x0 x2 0 J)else J r1)):∃r,J r/\C x0 x1 x2 r:=mE Tryz.f43 B W res<|mCal 6 h (fun _ h=>h) fun r1 _ h=>Abr 4 h Abm Abl (fun h=>mRet 6 h) fun h=>mLen 5 Aa4 x2<|mAsk 0 h dT dF (fun h=>mRet 5 h) fun h=>mLen 5 Aa4 x2<|mFin 2 h
end q110_
namespace q42_
def B:=bd Tryz.f80
def W:=[0,1,4]
def res(r:Bool):D×List D:=(bL r,[])
def C(x0 x1:Int)(r:Bool):Prop:=Ret env 80 [iL x0,uL x1] (res r).1 (res r).2
def nt(x0 x1:Int)(J:Bool->Prop)(h:∃r1:Int,q70_.C x0 r1/\∃r2:Bool,q84_.C x1 r1 r2/\J r2):∃r,J r/\C x0 x1 r:=mE Tryz.f80 B W res<|mCal 6 h (fun _ h=>h) fun r1 _ h=>mCal 0 h (fun _ h=>h) fun r2 _ h=>mRet 2 h
end q42_
namespace q54_
def B:=bd Tryz.f46
def W:=[0,1,2,6,7,8,13,17,21,41]
def res(r:Int):D×List D:=(iL r,[])
def C(x0:Int)(x1:List api_FD)(x2:List api_MVD)(r:Int):Prop:=Ret env 46 [iL x0,.sl (x1.map Aa3),.sl (x2.map Aa4)] (res r).1 (res r).2
def L1(x0:Int)(x2:List api_MVD)(z0:Int)(J:Int->Prop):Prop:=Pt env 46 W B [1,1,1,0,1,0] [(0,iL x0),(2,.sl (x2.map Aa4)),(8,iL z0)] (Lv env 46 Tryz.f46 3 res J)
def K1(x0:Int)(x2:List api_MVD)(z0:Int)(J:Int->Prop)(h:(if z0<(x2.length:Int)then ∃a2,lget x2 z0=some a2/\∃r4:Bool,q42_.C x0 a2.Lhs r4/\(if r4=true then ∃r5:Bool,q42_.C x0 a2.Rhs r5/\(if r5=true then L1 x0 x2 (IntKind.wrap .i64 (z0+1)) J else J 1)else J 1)else J 0)):L1 x0 x2 z0 J:=mIn<|mLen 4 Aa4 x2<|mAsk 0 h dT dF (fun h=>mIx 7 Aa4 h fun a2 h3 h=>Ab3 2 h (fun _ h=>h) (fun _ h=>mIxf 5 Aa4 h3<|Ab3 2 h (fun _ h=>h) (fun _ h=>mFin 10 h) fun _ h=>mRet 7 h) fun _ h=>mRet 16 h) fun h=>mRet 6 h
def nt(x0:Int)(x1:List api_FD)(x2:List api_MVD)(J:Int->Prop)(h:∃r1:Int,q53_.C x0 x1 r1/\(if r1=0 then(if 64<(x2.length:Int)then J 3 else L1 x0 x2 0 J)else J r1)):∃r,J r/\C x0 x1 x2 r:=mE Tryz.f46 B W res<|mCal 6 h (fun _ h=>h) fun r1 _ h=>Abr 4 h Abm Abl (fun h=>mRet 6 h) fun h=>mLen 5 Aa4 x2<|mAsk 0 h dT dF (fun h=>mRet 5 h) fun h=>mFin 6 h
end q54_
namespace q73_
def B:=bd Tryz.f134
def W:=[0,1,2,3,4,6,7,9,17,22,23,24,25,37,41,42,43,44,61]
def res(r:Bool):D×List D:=(bL r,[])
def C(x0:api_Partition)(r:Bool):Prop:=Ret env 134 [.agg [iL x0.Rows,.sl (x0.Classes.map (eSl (eI .i64)))]] (res r).1 (res r).2
def L1(x0:api_Partition)(z0:List Bool)(z1 z2:Int)(J:Bool->Prop):Prop:=Pt env 134 W B [1,1,1,1,0,1,0] [(0,.agg [iL x0.Rows,.sl (x0.Classes.map (eSl (eI .i64)))]),(1,.box [iL x0.Rows,.sl (x0.Classes.map (eSl (eI .i64)))]),(3,.own (z0.map eB)),(4,iL z1),(22,.sl (x0.Classes.map (eSl (eI .i64)))),(23,iL (x0.Classes.length:Int)),(24,iL z2)] (Lv env 134 Tryz.f134 1 res J)
def L2(x0:api_Partition)(z0:List Bool)(a4:Int)(a2:List Int)(z1 z2 z3:Int)(J:Bool->Prop):Prop:=Pt env 134 W B [1,1,1,1,0,1,0,0,1,1,0,0,1,1,1,1,1,0] [(0,.agg [iL x0.Rows,.sl (x0.Classes.map (eSl (eI .i64)))]),(1,.box [iL x0.Rows,.sl (x0.Classes.map (eSl (eI .i64)))]),(3,.own (z0.map eB)),(4,iL a4),(6,.sl (a2.map (eI .i64))),(7,iL z1),(22,.sl (x0.Classes.map (eSl (eI .i64)))),(23,iL (x0.Classes.length:Int)),(24,iL z2),(41,.sl (a2.map (eI .i64))),(42,iL (a2.length:Int)),(43,iL z3)] (Lv env 134 Tryz.f134 1 res J)
def K1(x0:api_Partition)(z0:List Bool)(z1 z2:Int)(J:Bool->Prop)(h:(if z2<(x0.Classes.length:Int)then ∃a2,lget x0.Classes z2=some a2/\(if(a2.length:Int)<2 then J false else ∃a4,lget a2 0=some a4/\(if a4<=z1 then J false else L2 x0 z0 a4 a2 (-1) z2 0 J))else J true)):L1 x0 z0 z1 z2 J:=mIn<|mAsk 2 h dT dF (fun h=>mIx 4 (eSl (eI .i64)) h fun a2 h3 h=>mLen 5 (eI .i64) a2<|mAsk 0 h dT dF (fun h=>mRet 12 h) fun h=>mIx 2 (eI .i64) h fun a4 h5 h=>mAsk 2 h dT dF (fun h=>mRet 6 h) fun h=>mIxf 6 (eI .i64) h5<|mLen 8 (eI .i64) a2<|mFin 2 h) fun h=>mRet 6 h
def K2(x0:api_Partition)(z0:List Bool)(a4:Int)(a2:List Int)(z1 z2 z3:Int)(J:Bool->Prop)(h:(if z3<(a2.length:Int)then ∃a6,lget a2 z3=some a6/\(if a6<=z1 then J false else(if x0.Rows<=a6 then J false else ∃a8,lget z0 a6=some a8/\(if a8=true then J false else L2 x0 (lset z0 a6 true) a4 a2 a6 z2 (IntKind.wrap .i64 (z3+1)) J)))else L1 x0 z0 a4 (IntKind.wrap .i64 (z2+1)) J)):L2 x0 z0 a4 a2 z1 z2 z3 J:=mIn<|mAsk 2 h dT dF (fun h=>mIx 4 (eI .i64) h fun a6 h7 h=>mAsk 6 h dT dF (fun h=>mRet 17 h) fun h=>mAsk 4 h dT dF (fun h=>mRet 12 h) fun h=>mIy 4 eB h fun a8 h9 h=>mLdB 0 h9 h (fun h=>mRet 6 h) fun h=>mIyf 7 eB h9<|mSto 0 eB true h9<|mFin 9 h) fun h=>mFin 7 h
def nt(x0:api_Partition)(J:Bool->Prop)(h:(if x0.Rows<0 then J false else(if 1000<x0.Rows then J false else(0<=x0.Rows/\x0.Rows*1<=281474976710656)/\L1 x0 (zD x0.Rows.toNat false) (-1) 0 J))):∃r,J r/\C x0 r:=mE Tryz.f134 B W res<|mAsk 7 h dT dF (fun h=>mRet 10 h) fun h=>mAsk 3 h dT dF (fun h=>mRet 6 h) fun h=>h.elim fun h1 h=>mVl 7 (At3 (t:=194) (x:=(.tmp 19)) (y:=(.tmp 19)) (q:=.i64) (i:=x0.Rows) (et:=4) (z:=bL false) (e:=eB) (a:=false) (k:=1) (by kernel_rfl) (by kernel_rfl) (by kernel_rfl) (by kernel_rfl) (by kernel_rfl) (by kernel_rfl) (by kernel_rfl) (by kernel_rfl) (by kernel_rfl) (by kernel_rfl) h1.1 h1.2)<|mLen 8 (eSl (eI .i64)) x0.Classes<|mFin 2 h
end q73_
end Go.Own
namespace Go.Own
def Acm(rows:Int):Int->List Bool->List Int->Option (List Bool)
 |_,seen,[]=>some seen
 |before,seen,i::r=>if i<=before∨rows<=i∨lget seen i=some true then none else Acm rows i (lset seen i true) r
def Acq(rows:Int):Int->List Bool->List (List Int)->Bool
 |_,_,[]=>true
 |first,seen,c::cs=>match c with
  |[]=>false
  |[_]=>false
  |a::b::r=>if a<=first then false else match Acm rows (-1) seen (a::b::r)with
   |none=>false
   |some seen'=>Acq rows a seen' cs
def Ad8(p:api_Partition):Bool:=if p.Rows<0 then false else if 1000<p.Rows then false else Acq p.Rows (-1) (zD p.Rows.toNat false) p.Classes
def Ajc(p:api_Partition):Prop:=p.Classes.length<Big/\∀c∈p.Classes,c.length<Big
def Amr{rows:Int}:∀{r:List Int}{b:Int}{s s':List Bool},Acm rows b s r=some s'->s'.length=s.length
 |[],_,_,_,h=>by simp[Acm]at h;rw[h]
 |i::r,b,s,s',h=>by
  simp only[Acm]at h
  split at h
  .cases h
  .have:=Amr h;rw[this,Ac9]
namespace q73_
def inner{x0:api_Partition}{a4 y24:Int}{a2:List Int}{J:Bool->Prop}(hb:a2.length<Big):∀(r:List Int)(k:Nat)(seen:List Bool)(before:Int),a2.drop k=r->(seen.length:Int)=x0.Rows->-1<=before ->
  (match Acm x0.Rows before seen r with
   |none=>J false
   |some s=>L1 x0 s a4 (IntKind.wrap .i64 (y24+1)) J)->L2 x0 seen a4 a2 before y24 k J
 |[],k,seen,before,hd,hs,hbf,h=>by
  apply K2;have:=Aap hd;rw[if_neg (by omega)];exact h
 |i::r,k,seen,before,hd,hs,hbf,h=>by
  apply K2;have hk:=Aaq hd;rw[if_pos (by omega)];refine⟨i,Ab9 hd,?_⟩;simp only[Acm]at h
  split
  .rename_i h1;rw[if_pos (.inl h1)]at h;exact h
  .rename_i h1
   split
   .rename_i h2;rw[if_pos (.inr (.inl h2))]at h;exact h
   .rename_i h2;obtain⟨b,hg⟩:=Agu (l:=seen) (i:=i) (by omega) (by omega);refine⟨b,hg,?_⟩
    split
    .rename_i h3;subst h3;rw[if_pos (.inr (.inr hg))]at h;exact h
    .rename_i h3;have:¬(i<=before∨x0.Rows<=i∨lget seen i=some true):=by
      rintro(h|h|h)
      .exact h1 h
      .exact h2 h
      .rw [hg]at h;exact h3 (zE h)
     rw[if_neg this]at h;rw[Aa5 (by unfold Big at hb;omega)];exact inner hb r (k+1) _ i (Aa8 hd) (by rw[Ac9];exact hs) (by omega) h
def outer{x0:api_Partition}{J:Bool->Prop}(hb:Ajc x0):∀(cs:List (List Int))(k:Nat)(seen:List Bool)(first:Int),x0.Classes.drop k=cs->(seen.length:Int)=x0.Rows ->
  J (Acq x0.Rows first seen cs)->L1 x0 seen first k J
 |[],k,seen,first,hd,hs,h=>by
  apply K1;have:=Aap hd;rw[if_neg (by omega)];exact h
 |c::cs,k,seen,first,hd,hs,h=>by
  apply K1;have hk:=Aaq hd;have hc:c∈x0.Classes:=zB (Aab hd);rw[if_pos (by omega)];refine⟨c,Ab9 hd,?_⟩
  match c,hc,h,hd with
  |[],_,h,hd=>simp only[List.length_nil];exact h
  |[_],_,h,hd=>simp only[zY];exact h
  |a::b::r,hc,h,hd=>
   rw[if_neg (by simp;omega)];refine⟨a,by simp[lget],?_⟩;simp only[Acq]at h
   split
   .rename_i h1;rw[if_pos h1]at h;exact h
   .rename_i h1;rw[if_neg h1]at h;refine inner (hb.2 _ hc) (a::b::r) 0 seen (-1) rfl hs (by omega) ?_;cases ho:Acm x0.Rows (-1) seen (a::b::r)with
    |none=>rw[ho]at h;exact h
    |some s=>
     rw[ho]at h;simp only at h⊢;rw[Aa5 (by have:=hb.1;unfold Big at this;omega)];exact outer hb cs (k+1) s a (Aa8 hd) (by rw[Amr ho];exact hs) h
def sP{x0:api_Partition}(hb:Ajc x0):C x0 (Ad8 x0):=by
 obtain⟨r,h1,h2⟩:=nt x0 (fun r=>r=Ad8 x0) (by
  unfold Ad8
  split
  .rfl
  .split
   .rfl
   .refine ⟨by omega,?_⟩
    exact outer hb x0.Classes 0 _ (-1) rfl (by simp;omega) rfl)
 rw[<-h1];exact h2
end q73_
end Go.Own
namespace Go.Own
open Go.Proofs D
set_option maxRecDepth 100000
set_option maxHeartbeats 4000000
namespace q55_
def B:=bd Tryz.f81
def W:=[0,1,2,3,4,5,6,8,9,14,39]
def res(r:Bool):D×List D:=(bL r,[])
def C(x0:api_Table)(x1 x2:api_Row)(x3:Int)(r:Bool):Prop:=Ret env 81 [.agg [tL x0.Name,.sl (x0.Attrs.map eS),.sl (x0.Rows.map Aa2)],.agg [iL x1.ID,.sl (x1.Values.map Aa1)],.agg [iL x2.ID,.sl (x2.Values.map Aa1)],uL x3] (res r).1 (res r).2
def L1(x0:api_Table)(x1 x2:api_Row)(x3 z0:Int)(J:Bool->Prop):Prop:=Pt env 81 W B [1,0,1,0] [(0,.agg [tL x0.Name,.sl (x0.Attrs.map eS),.sl (x0.Rows.map Aa2)]),(1,.agg [iL x1.ID,.sl (x1.Values.map Aa1)]),(2,.agg [iL x2.ID,.sl (x2.Values.map Aa1)]),(3,uL x3),(4,.box [tL x0.Name,.sl (x0.Attrs.map eS),.sl (x0.Rows.map Aa2)]),(5,.box [iL x1.ID,.sl (x1.Values.map Aa1)]),(6,.box [iL x2.ID,.sl (x2.Values.map Aa1)]),(9,iL z0)] (Lv env 81 Tryz.f81 4 res J)
def L2(x0:api_Table)(x1 x2:api_Row)(x3 z0:Int)(J:Bool->Prop):Prop:=Pt env 81 W B [1,0,1,0,0,1,1] [(0,.agg [tL x0.Name,.sl (x0.Attrs.map eS),.sl (x0.Rows.map Aa2)]),(1,.agg [iL x1.ID,.sl (x1.Values.map Aa1)]),(2,.agg [iL x2.ID,.sl (x2.Values.map Aa1)]),(3,uL x3),(4,.box [tL x0.Name,.sl (x0.Attrs.map eS),.sl (x0.Rows.map Aa2)]),(5,.box [iL x1.ID,.sl (x1.Values.map Aa1)]),(6,.box [iL x2.ID,.sl (x2.Values.map Aa1)]),(9,iL z0)] (Lv env 81 Tryz.f81 4 res J)
def K1(x0:api_Table)(x1 x2:api_Row)(x3 z0:Int)(J:Bool->Prop)(h:(if z0<(x0.Rows.length:Int)then ∃a1,lget x0.Rows z0=some a1/\∃r3:Bool,q52_.C a1 x1 x3 r3/\(if r3=true then ∃r4:Int,q70_.C (x0.Attrs.length:Int) r4/\∃r5:Bool,q52_.C a1 x2 (Aae .u32 r4 x3) r5/\(if r5=true then J true else L2 x0 x1 x2 x3 z0 J)else L2 x0 x1 x2 x3 z0 J)else J false)):L1 x0 x1 x2 x3 z0 J:=mIn<|mLen 5 Aa2 x0.Rows<|mAsk 0 h dT dF (fun h=>mIx 7 Aa2 h fun a1 h2 h=>Ab3 3 h (fun _ h=>h) (fun _ h=>mIxf 4 Aa2 h2<|mLen 4 eS x0.Attrs<|mLo 0 h (fun _ h=>h) fun r4 _ h=>Ab3 (A:=fun _=>J true) 2 h (fun _ h=>h) (fun _ h=>mRet 6 h) fun _ h=>mFin 4 h) fun _ h=>mFin 18 h) fun h=>mRet 6 h
def K2(x0:api_Table)(x1 x2:api_Row)(x3 z0:Int)(J:Bool->Prop)(h:L1 x0 x1 x2 x3 (IntKind.wrap .i64 (z0+1)) J):L2 x0 x1 x2 x3 z0 J:=mIn<|mFin 5 h
def nt(x0:api_Table)(x1 x2:api_Row)(x3:Int)(J:Bool->Prop)(h:L1 x0 x1 x2 x3 0 J):∃r,J r/\C x0 x1 x2 x3 r:=mE Tryz.f81 B W res<|mFin 9 h
end q55_
namespace q56_
def B:=bd Tryz.f40
def W:=[0,1,2,3,4,5,6,7,8,9,10,14,26,36,43,74]
def res(r:Bool×Int):D×List D:=(.tup [bL r.1,iL r.2],[])
def C(x0:api_Table)(x1:api_MVD)(r:Bool×Int):Prop:=Ret env 40 [.agg [tL x0.Name,.sl (x0.Attrs.map eS),.sl (x0.Rows.map Aa2)],.agg [uL x1.Lhs,uL x1.Rhs]] (res r).1 (res r).2
def L1(x0:api_Table)(x1:api_MVD)(z0:Int)(J:Bool×Int->Prop):Prop:=Pt env 40 W B [1,1,1,1,1,0,1,0] [(0,.agg [tL x0.Name,.sl (x0.Attrs.map eS),.sl (x0.Rows.map Aa2)]),(1,.agg [uL x1.Lhs,uL x1.Rhs]),(2,.box [tL x0.Name,.sl (x0.Attrs.map eS),.sl (x0.Rows.map Aa2)]),(3,.box [uL x1.Lhs,uL x1.Rhs]),(8,uL (bOr .u32 x1.Lhs x1.Rhs)),(9,iL z0)] (Lv env 40 Tryz.f40 2 res J)
def L2(x0:api_Table)(x1:api_MVD)(z0 z1:Int)(J:Bool×Int->Prop):Prop:=Pt env 40 W B [1,1,1,1,1,0,1,0,0,1,0,0,1,0] [(0,.agg [tL x0.Name,.sl (x0.Attrs.map eS),.sl (x0.Rows.map Aa2)]),(1,.agg [uL x1.Lhs,uL x1.Rhs]),(2,.box [tL x0.Name,.sl (x0.Attrs.map eS),.sl (x0.Rows.map Aa2)]),(3,.box [uL x1.Lhs,uL x1.Rhs]),(8,uL (bOr .u32 x1.Lhs x1.Rhs)),(9,iL z0),(10,iL z1)] (Lv env 40 Tryz.f40 2 res J)
def L3(x0:api_Table)(x1:api_MVD)(z0 z1:Int)(J:Bool×Int->Prop):Prop:=Pt env 40 W B [1,1,1,1,1,0,1,0,0,1,0,0,1,0,0,1,1] [(0,.agg [tL x0.Name,.sl (x0.Attrs.map eS),.sl (x0.Rows.map Aa2)]),(1,.agg [uL x1.Lhs,uL x1.Rhs]),(2,.box [tL x0.Name,.sl (x0.Attrs.map eS),.sl (x0.Rows.map Aa2)]),(3,.box [uL x1.Lhs,uL x1.Rhs]),(8,uL (bOr .u32 x1.Lhs x1.Rhs)),(9,iL z0),(10,iL z1)] (Lv env 40 Tryz.f40 2 res J)
def K1(x0:api_Table)(x1:api_MVD)(z0:Int)(J:Bool×Int->Prop)(h:(if z0<(x0.Rows.length:Int)then L2 x0 x1 z0 0 J else J (true,0))):L1 x0 x1 z0 J:=mIn<|mLen 5 Aa2 x0.Rows<|mAsk 0 h dT dF (fun h=>mFin 6 h) fun h=>mRet 7 h
def K2(x0:api_Table)(x1:api_MVD)(z0 z1:Int)(J:Bool×Int->Prop)(h:(if z1<(x0.Rows.length:Int)then ∃a3,lget x0.Rows z0=some a3/\∃a5,lget x0.Rows z1=some a5/\∃r7:Bool,q52_.C a3 a5 x1.Lhs r7/\(if r7=true then ∃r8:Bool,q55_.C x0 a3 a5 (bOr .u32 x1.Lhs x1.Rhs) r8/\(if r8=true then L3 x0 x1 z0 z1 J else J (false,0))else L3 x0 x1 z0 z1 J)else L1 x0 x1 (IntKind.wrap .i64 (z0+1)) J)):L2 x0 x1 z0 z1 J:=mIn<|mLen 5 Aa2 x0.Rows<|mAsk 0 h dT dF (fun h=>mIx 7 Aa2 h fun a3 h4 h=>mIx 4 Aa2 h fun a5 h6 h=>Ab3 3 h (fun _ h=>h) (fun _ h=>mIxf 5 Aa2 h4<|mIxf 4 Aa2 h6<|Ab3 2 h (fun _ h=>h) (fun _ h=>mFin 5 h) fun _ h=>mRet 8 h) fun _ h=>mFin 19 h) fun h=>mFin 8 h
def K3(x0:api_Table)(x1:api_MVD)(z0 z1:Int)(J:Bool×Int->Prop)(h:L2 x0 x1 z0 (IntKind.wrap .i64 (z1+1)) J):L3 x0 x1 z0 z1 J:=mIn<|mFin 5 h
def nt(x0:api_Table)(x1:api_MVD)(J:Bool×Int->Prop)(h:∃r1:Int,q50_.C x0 r1/\(if r1=0 then ∃r2:Bool,q42_.C (x0.Attrs.length:Int) (bOr .u32 x1.Lhs x1.Rhs) r2/\(if r2=true then L1 x0 x1 0 J else J (false,1))else J (false,r1))):∃r,J r/\C x0 x1 r:=mE Tryz.f40 B W res<|mCal 8 h (fun _ h=>h) fun r1 _ h=>Abr 4 h Abm Abl (fun h=>mRet 7 h) fun h=>mLen 6 eS x0.Attrs<|Ab3 9 h (fun _ h=>h) (fun _ h=>mFin 15 h) fun _ h=>mRet 7 h
end q56_
end Go.Own
namespace Go.Own
def free:List Bool->Nat
 |[]=>0
 |b::l=>(if b then 0 else 1)+free l
def Avn(n:Nat):free (zD n false)=n:=by
 induction n with
 |zero=>rfl
 |succ n ih=>simp only[yB,free,ih];simp;omega
def Azn:∀{l:List Bool}{n:Nat},l[n]?=some false->free (l.set n true)+1=free l
 |[],n,h=>by simp at h
 |b::l,0,h=>by simp at h;subst h;simp[free];omega
 |b::l,n+1,h=>by
  simp only[zG]at h;have:=Azn h;simp only[List.set_cons_succ,free];omega
def Bfo{l:List Bool}{i:Int}(h:lget l i=some false):free (lset l i true)+1=free l:=Azn (Ac0 h).2
def As1{rows:Int}:∀{r:List Int}{i b:Int}{s s':List Bool},-1<=b->(s.length:Int)=rows->Acm rows b s (i::r)=some s'->b<i/\i<rows/\lget s i=some false/\Acm rows i (lset s i true) r=some s':=by
 intro r i b s s' hb hs h;simp only[Acm]at h
 split at h
 .cases h
 .rename_i h1;simp only[not_or]at h1;obtain⟨x,hx⟩:=Agu (l:=s) (i:=i) (by omega) (by omega);refine⟨by omega,by omega,?_,h⟩;rw[hx]at h1⊢;cases x with
  |true=>exact absurd rfl h1.2.2
  |false=>rfl
def Aq5{rows:Int}:∀{r:List Int}{b:Int}{s s':List Bool},-1<=b->(s.length:Int)=rows->Acm rows b s r=some s'->free s'+r.length=free s
 |[],b,s,s',hb,hs,h=>by simp[Acm]at h;simp[h]
 |i::r,b,s,s',hb,hs,h=>by
  obtain⟨h1,h2,h3,h4⟩:=As1 hb hs h;have:=Aq5 (by omega) (by rw[Ac9];exact hs) h4;have h5:=Bfo h3;simp only[zF];omega
def Ai5:List (List Int)->Int
 |[]=>0
 |c::cs=>((c.length:Int)-1)+Ai5 cs
def Aox{rows first:Int}{s:List Bool}{c:List Int}{cs:List (List Int)}(h:Acq rows first s (c::cs)=true):∃a b r s',c=a::b::r/\first<a/\Acm rows (-1) s c=some s'/\Acq rows a s' cs=true:=by
 match c,h with
 |[],h=>simp[Acq]at h
 |[_],h=>simp[Acq]at h
 |a::b::r,h=>
  simp only[Acq]at h
  split at h
  .cases h
  .rename_i h1;cases ho:Acm rows (-1) s (a::b::r)with
   |none=>rw[ho]at h;cases h
   |some s'=>rw[ho]at h;exact⟨a,b,r,s',rfl,by omega,rfl,h⟩
def Ato{rows:Int}:∀{cs:List (List Int)}{first:Int}{s:List Bool},(s.length:Int)=rows->Acq rows first s cs=true->0<=Ai5 cs/\Ai5 cs<=free s
 |[],_,_,_,_=>by simp[Ai5]
 |c::cs,first,s,hs,h=>by
  obtain⟨a,b,r,s',hc,h1,h2,h3⟩:=Aox h;have h4:=Aq5 (by omega) hs h2;have h5:=Ato (by rw[Amr h2];exact hs) h3;subst hc;simp only[Ai5,zF]at h4⊢;omega
def Bb2{p:api_Partition}(h:Ad8 p=true):0<=p.Rows/\p.Rows<=1000/\Acq p.Rows (-1) (zD p.Rows.toNat false) p.Classes=true:=by
 unfold Ad8 at h
 split at h
 .cases h
 .split at h
  .cases h
  .exact ⟨by omega,by omega,h⟩
def Agd(a:Int):List Int->List Int->List Int
 |l,[]=>l
 |l,i::r=>Agd a (lset l i a) r
def Ad7{a:Int}:∀{l r:List Int},(Agd a l r).length=l.length
 |_,[]=>rfl
 |l,i::r=>by simp only[Agd];rw[Ad7,Ac9]
def Am8(s:List Bool)(r:List Int):List Bool:=r.foldl (fun s i=>lset s i true) s
def Aq0:∀{r:List Int}{s:List Bool},(Am8 s r).length=s.length
 |[],_=>rfl
 |i::r,s=>by
  show(Am8 (lset s i true) r).length=_;rw[Aq0,Ac9]
def Apz:∀{r:List Int}{s:List Bool}{j:Int},(∀i∈r,0<=i/\i<s.length)->0<=j->j<s.length->lget (Am8 s r) j=if j∈r then some true else lget s j
 |[],_,_,_,_,_=>by simp[Am8]
 |i::r,s,j,h,hj,hjs=>by
  show lget (Am8 (lset s i true) r) j=_;have hi:=h i (by simp);rw[Apz (fun k hk=>by rw[Ac9];exact h k (by simp[hk])) hj (by rw[Ac9];exact hjs)];by_cases h1:j∈r
  .simp [h1]
  .rw [if_neg h1,Am6 hi.1 hj];by_cases h2:i=j
   .subst h2;simp[hi.2]
   .rw [if_neg h2,if_neg];simp only[zC,not_or];exact⟨fun h=>h2 h.symm,h1⟩
def Ajh{rows:Int}:∀{r:List Int}{b:Int}{s s':List Bool},-1<=b->(s.length:Int)=rows->(Acm rows b s r=some s'↔(b::r).Pairwise (·<·)/\(∀i∈r,i<rows/\lget s i=some false)/\s'=Am8 s r)
 |[],b,s,s',hb,hs=>by simp[Acm,Am8,eq_comm]
 |i::r,b,s,s',hb,hs=>by
  constructor
  .intro h;obtain⟨h1,h2,h3,h4⟩:=As1 hb hs h;obtain⟨k1,k2,k3⟩:=(Ajh (by omega) (by rw[Ac9];exact hs)).1 h4;have k4:=zA.1 k1;refine⟨zA.2 ⟨fun j hj=>?_,k1⟩,fun j hj=>?_,k3⟩
   .rcases zC.1 hj with rfl|hj
    .exact h1
    .have:=k4.1 j hj;omega
   .rcases zC.1 hj with rfl|hj
    .exact ⟨h2,h3⟩
    .have h5:=k4.1 j hj;have h6:=k2 j hj;rw[Am6 (by omega) (by omega),if_neg (by omega)]at h6;exact h6
  .rintro ⟨h1,h2,h3⟩;have k1:=zA.1 h1;have k2:=zA.1 k1.2;have hbi:=k1.1 i (by simp);have hi:=h2 i (by simp);simp only[Acm];rw[if_neg (by
    rintro(h|h|h)
    .omega
    .omega
    .rw [hi.2]at h;cases h)]
   refine(Ajh (by omega) (by rw[Ac9];exact hs)).2 ⟨k1.2,fun j hj=>?_,h3⟩;have h5:=k2.1 j hj;rw[Am6 (by omega) (by omega),if_neg (by omega)];exact h2 j (by simp[hj])
structure CP(rows:Int)(cs:List (List Int)):Prop where
 two:∀c∈cs,2<=c.length
 inc:∀c∈cs,c.Pairwise (·<·)
 inn:∀c∈cs,∀i∈c,0<=i/\i<rows
 heads:cs.Pairwise fun c d=>c.headD 0<d.headD 0
 disj:cs.Pairwise fun c d=>∀i∈c,i ∉ d
def Ahh{rows:Int}:∀{cs:List (List Int)}{first:Int}{s:List Bool},-1<=first->(s.length:Int)=rows->(Acq rows first s cs=true↔CP rows cs/\(∀c∈cs,first<c.headD 0)/\∀c∈cs,∀i∈c,lget s i=some false)
 |[],first,s,hf,hs=>by
  simp only[Acq,true_iff];exact⟨⟨by simp,by simp,by simp,by simp,by simp⟩,by simp,by simp⟩
 |c::cs,first,s,hf,hs=>by
  constructor
  .intro h;obtain⟨a,b,t,s',hc,h1,h2,h3⟩:=Aox h;obtain⟨m1,m2,m3⟩:=(Ajh (by omega) hs).1 h2;have hin:∀i∈c,0<=i/\i<rows:=fun i hi=>by
    have:=(zA.1 m1).1 i hi;exact⟨by omega,(m2 i hi).1⟩
   have hs':(s'.length:Int)=rows:=by rw[m3,Aq0];exact hs
   have ha:0<=a:=(hin a (by rw[hc];simp)).1;obtain⟨n1,n2,n3⟩:=(Ahh (by omega) hs').1 h3;have key:∀d∈cs,∀i∈d,i ∉ c/\lget s i=some false:=fun d hd i hi=>by
    have h5:=n3 d hd i hi;have h6:=n1.inn d hd i hi;rw[m3,Apz (fun k hk=>by have:=hin k hk;omega) h6.1 (by omega)]at h5;by_cases hic:i∈c
    .rw [if_pos hic]at h5;cases h5
    .rw [if_neg hic]at h5;exact⟨hic,h5⟩
   refine⟨⟨?_,?_,?_,?_,?_⟩,?_,?_⟩
   .intro d hd;rcases zC.1 hd with rfl|hd
    .rw [hc];simp
    .exact n1.two d hd
   .intro d hd;rcases zC.1 hd with rfl|hd
    .exact (zA.1 m1).2
    .exact n1.inc d hd
   .intro d hd;rcases zC.1 hd with rfl|hd
    .exact hin
    .exact n1.inn d hd
   .refine zA.2 ⟨fun d hd=>?_,n1.heads⟩;have:=n2 d hd;rw[hc];exact this
   .exact zA.2 ⟨fun d hd i hi hid=>(key d hd i hid).1 hi,n1.disj⟩
   .intro d hd;rcases zC.1 hd with rfl|hd
    .rw [hc];exact h1
    .have:=n2 d hd;omega
   .intro d hd i hi;rcases zC.1 hd with rfl|hd
    .exact (m2 i hi).2
    .exact (key d hd i hi).2
  .rintro ⟨⟨p1,p2,p3,p4,p5⟩,q1,q2⟩
   match c,p1 c (by simp),p1,p2,p3,p4,p5,q1,q2 with
   |a::b::t,_,p1,p2,p3,p4,p5,q1,q2=>
    have ho:Acm rows (-1) s (a::b::t)=some (Am8 s (a::b::t)):=(Ajh (by omega) hs).2 ⟨zA.2 ⟨fun i hi=>by have:=(p3 _ (by simp) i hi).1;omega,p2 _ (by simp)⟩,fun i hi=>⟨(p3 _ (by simp) i hi).2,q2 _ (by simp) i hi⟩,rfl⟩;have ha:=p3 (a::b::t) (by simp) a (by simp);simp only[Acq];rw[if_neg (by have:=q1 (a::b::t) (by simp);simp at this;omega),ho];refine(Ahh (by omega) (by rw[Aq0];exact hs)).2 ⟨⟨fun d hd=>p1 d (by simp[hd]),fun d hd=>p2 d (by simp[hd]),fun d hd=>p3 d (by simp[hd]),(zA.1 p4).2,(zA.1 p5).2⟩,fun d hd=>?_,fun d hd i hi=>?_⟩
    .exact (zA.1 p4).1 d hd
    .have h6:=p3 d (by simp[hd]) i hi;rw[Apz (fun k hk=>by have:=p3 (a::b::t) (by simp) k hk;omega) h6.1 (by omega),if_neg]
     .exact q2 d (by simp[hd]) i hi
     .exact fun hic=>(zA.1 p5).1 d hd i hic hi
def Agj{p:api_Partition}:Ad8 p=true↔0<=p.Rows/\p.Rows<=1000/\CP p.Rows p.Classes:=by
 constructor
 .intro h;obtain⟨h1,h2,h3⟩:=Bb2 h;exact⟨h1,h2,((Ahh (by omega) (by simp;omega)).1 h3).1⟩
 .rintro ⟨h1,h2,h3⟩;unfold Ad8;rw[if_neg (by omega),if_neg (by omega)];refine(Ahh (by omega) (by simp;omega)).2 ⟨h3,fun c hc=>?_,fun c hc i hi=>?_⟩
  .have h4:=h3.two c hc
   match c,h4,hc with
   |a::t,_,hc=>have:=h3.inn _ hc a (by simp);simp;omega
  .have:=h3.inn c hc i hi;simp only[lget,if_pos this.1,List.getElem?_replicate];rw[if_pos (by omega)]
def Same(p:api_Partition)(i j:Int):Prop:=i=j∨∃c∈p.Classes,i∈c/\j∈c
def Al5{a:Int}:∀{r:List Int}{l:List Int}{j:Int},(∀i∈r,0<=i/\i<l.length)->0<=j->j<l.length->lget (Agd a l r) j=if j∈r then some a else lget l j
 |[],_,_,_,_,_=>by simp[Agd]
 |i::r,l,j,h,hj,hjl=>by
  have hi:=h i (by simp);simp only[Agd];rw[Al5 (fun k hk=>by rw[Ac9];exact h k (by simp[hk])) hj (by rw[Ac9];exact hjl)];by_cases h1:j∈r
  .simp [h1]
  .rw [if_neg h1,Am6 hi.1 hj];by_cases h2:i=j
   .subst h2;simp[hi.2]
   .rw [if_neg h2,if_neg];simp only[zC,not_or];exact⟨fun h=>h2 h.symm,h1⟩
def Aie:List (Int×List Int)->List Int->List Int
 |[],l=>l
 |(a,c)::r,l=>Aie r (Agd a l c)
def Auc:∀{r:List (Int×List Int)}{l:List Int},(Aie r l).length=l.length
 |[],_=>rfl
 |(a,c)::r,l=>by simp only[Aie];rw[Auc,Ad7]
def Ao8:∀{r:List (Int×List Int)}{l:List Int}{j:Int},(∀x∈r,∀i∈x.2,0<=i/\i<l.length)->0<=j->j<l.length->(∀x∈r,j ∉ x.2)->lget (Aie r l) j=lget l j
 |[],_,_,_,_,_,_=>rfl
 |(a,c)::r,l,j,h,hj,hjl,hn=>by
  simp only[Aie];rw[Ao8 (fun x hx=>by rw[Ad7];exact h x (by simp[hx])) hj (by rw[Ad7];exact hjl) (fun x hx=>hn x (by simp[hx])),Al5 (h (a,c) (by simp)) hj hjl,if_neg (hn (a,c) (by simp))]
def Axc:∀{r:List (Int×List Int)}{l:List Int}{j:Int}{x:Int×List Int},(∀x∈r,∀i∈x.2,0<=i/\i<l.length)->0<=j->j<l.length->r.Pairwise (fun x y=>∀i∈x.2,i ∉ y.2)->x∈r->j∈x.2->lget (Aie r l) j=some x.1
 |[],_,_,_,_,_,_,_,hx,_=>by cases hx
 |(a,c)::r,l,j,x,h,hj,hjl,hp,hx,hjx=>by
  simp only[Aie];have hp':=zA.1 hp;rcases zC.1 hx with rfl|hx
  .rw [Ao8 (fun x hx=>by rw[Ad7];exact h x (by simp[hx])) hj (by rw[Ad7];exact hjl) (fun y hy=>hp'.1 y hy j hjx),Al5 (h (a,c) (by simp)) hj hjl,if_pos hjx]
  .exact Axc (fun x hx=>by rw[Ad7];exact h x (by simp[hx])) hj (by rw[Ad7];exact hjl) hp'.2 hx hjx
def Bfu{c:List Int}(h:2<=c.length):c.headD 0∈c:=by
 match c,h with
 |a::t,_=>simp
end Go.Own
namespace Go.Own
open Go.Proofs D
set_option maxRecDepth 100000
set_option maxHeartbeats 4000000
namespace q57_
def B:=bd Tryz.f111
def W:=[0,1,2,3,4,5,6,8,13,14,15,24,25,26,27,31,32,33,34]
def res(r:List Int):D×List D:=(.own (r.map (eI .i64)),[])
def C(x0:api_Partition)(r:List Int):Prop:=Ret env 111 [.agg [iL x0.Rows,.sl (x0.Classes.map (eSl (eI .i64)))]] (res r).1 (res r).2
def L1(x0:api_Partition)(z0:List Int)(z1:Int)(J:List Int->Prop):Prop:=Pt env 111 W B [1,1,0,1,0] [(0,.agg [iL x0.Rows,.sl (x0.Classes.map (eSl (eI .i64)))]),(1,.box [iL x0.Rows,.sl (x0.Classes.map (eSl (eI .i64)))]),(3,.own (z0.map (eI .i64))),(13,iL ((zD x0.Rows.toNat (0:Int)).length:Int)),(14,iL z1)] (Lv env 111 Tryz.f111 1 res J)
def L2(x0:api_Partition)(z0:List Int)(z1:Int)(J:List Int->Prop):Prop:=Pt env 111 W B [1,1,1,0,1,0] [(0,.agg [iL x0.Rows,.sl (x0.Classes.map (eSl (eI .i64)))]),(1,.box [iL x0.Rows,.sl (x0.Classes.map (eSl (eI .i64)))]),(3,.own (z0.map (eI .i64))),(24,.sl (x0.Classes.map (eSl (eI .i64)))),(25,iL (x0.Classes.length:Int)),(26,iL z1)] (Lv env 111 Tryz.f111 1 res J)
def L3(x0:api_Partition)(z0:List Int)(z1:Int)(a4:List Int)(z2 z3:Int)(J:List Int->Prop):Prop:=Pt env 111 W B [1,1,1,0,1,0,0,1,1,0,0,1,1,0] [(0,.agg [iL x0.Rows,.sl (x0.Classes.map (eSl (eI .i64)))]),(1,.box [iL x0.Rows,.sl (x0.Classes.map (eSl (eI .i64)))]),(3,.own (z0.map (eI .i64))),(5,iL z1),(6,.sl (a4.map (eI .i64))),(24,.sl (x0.Classes.map (eSl (eI .i64)))),(25,iL (x0.Classes.length:Int)),(26,iL z2),(31,.sl (a4.map (eI .i64))),(32,iL (a4.length:Int)),(33,iL z3)] (Lv env 111 Tryz.f111 1 res J)
def K1(x0:api_Partition)(z0:List Int)(z1:Int)(J:List Int->Prop)(h:(if z1<((zD x0.Rows.toNat (0:Int)).length:Int)then ∃a2,lget z0 z1=some a2/\L1 x0 (lset z0 z1 (IntKind.wrap .i64 ((-1)-z1))) (IntKind.wrap .i64 (z1+1)) J else L2 x0 z0 0 J)):L1 x0 z0 z1 J:=mIn<|mAsk 2 h dT dF (fun h=>mIy 12 (eI .i64) h fun a2 h3 h=>mSto 0 (eI .i64) (IntKind.wrap .i64 ((-1)-z1)) h3<|mFin 5 h) fun h=>mLen 6 (eSl (eI .i64)) x0.Classes<|mFin 2 h
def K2(x0:api_Partition)(z0:List Int)(z1:Int)(J:List Int->Prop)(h:(if z1<(x0.Classes.length:Int)then ∃a4,lget x0.Classes z1=some a4/\L3 x0 z0 z1 a4 z1 0 J else J z0)):L2 x0 z0 z1 J:=mIn<|mAsk 2 h dT dF (fun h=>mIx 5 (eSl (eI .i64)) h fun a4 h5 h=>mLen 6 (eI .i64) a4<|mFin 2 h) fun h=>mRet 7 h
def K3(x0:api_Partition)(z0:List Int)(z1:Int)(a4:List Int)(z2 z3:Int)(J:List Int->Prop)(h:(if z3<(a4.length:Int)then ∃a6,lget a4 z3=some a6/\∃a8,lget z0 a6=some a8/\L3 x0 (lset z0 a6 z1) z1 a4 z2 (IntKind.wrap .i64 (z3+1)) J else L2 x0 z0 (IntKind.wrap .i64 (z2+1)) J)):L3 x0 z0 z1 a4 z2 z3 J:=mIn<|mAsk 2 h dT dF (fun h=>mIx 4 (eI .i64) h fun a6 h7 h=>mIy 7 (eI .i64) h fun a8 h9 h=>mSto 0 (eI .i64) z1 h9<|mFin 5 h) fun h=>mFin 7 h
def nt(x0:api_Partition)(J:List Int->Prop)(h:(0<=x0.Rows/\x0.Rows*8<=281474976710656)/\L1 x0 (zD x0.Rows.toNat (0:Int)) 0 J):∃r,J r/\C x0 r:=mE Tryz.f111 B W res<|h.elim fun h1 h=>mVl 7 (At3 (t:=92) (x:=(.tmp 10)) (y:=(.tmp 10)) (q:=.i64) (i:=x0.Rows) (et:=3) (z:=iL 0) (e:=(eI .i64)) (a:=(0:Int)) (k:=8) (by kernel_rfl) (by kernel_rfl) (by kernel_rfl) (by kernel_rfl) (by kernel_rfl) (by kernel_rfl) (by kernel_rfl) (by kernel_rfl) (by kernel_rfl) (by kernel_rfl) h1.1 h1.2)<|mLen 4 (eI .i64) (zD x0.Rows.toNat (0:Int))<|mFin 2 h
end q57_
namespace q85_
def B:=bd Tryz.f110
def W:=[0,1,2,3,4,12,17]
def res(r:Int):D×List D:=(iL r,[])
def C(x0 x1:api_Partition)(r:Int):Prop:=Ret env 110 [.agg [iL x0.Rows,.sl (x0.Classes.map (eSl (eI .i64)))],.agg [iL x1.Rows,.sl (x1.Classes.map (eSl (eI .i64)))]] (res r).1 (res r).2
def nt(x0 x1:api_Partition)(J:Int->Prop)(h:∃r1:Bool,q73_.C x0 r1/\(if r1=true then ∃r2:Bool,q73_.C x1 r2/\(if r2=true then(if x0.Rows=x1.Rows then J 0 else J 6)else J 1)else J 1)):∃r,J r/\C x0 x1 r:=mE Tryz.f110 B W res<|Ab3 7 h (fun _ h=>h) (fun _ h=>Ab3 3 h (fun _ h=>h) (fun _ h=>Abr 10 h Abm Abl (fun h=>mRet 5 h) fun h=>mRet 6 h) fun _ h=>mRet 7 h) fun _ h=>mRet 11 h
end q85_
end Go.Own
namespace Go.Own
def negs(n:Nat):List Int:=(zW n).map fun(k:Nat)=>-1-(k:Int)
def Bie{n k:Nat}(h:k<n):(negs n)[k]?=some (-1-(k:Int)):=by simp[negs,h]
def Aho{n:Nat}:(negs n).length=n:=by simp[negs]
def idx:Nat->List (List Int)->List (Int×List Int)
 |_,[]=>[]
 |k,c::cs=>((k:Int),c)::idx (k+1) cs
def Ahu:∀{cs:List (List Int)}{k:Nat}{x:Int×List Int},x∈idx k cs->∃n:Nat,k<=n/\x.1=(n:Int)/\cs[n-k]?=some x.2
 |[],_,_,h=>by cases h
 |c::cs,k,x,h=>by
  rcases zC.1 h with rfl|h
  .exact ⟨k,by omega,rfl,by simp⟩
  .obtain ⟨n,h1,h2,h3⟩:=Ahu h;refine⟨n,by omega,h2,?_⟩;have:n-k=(n-(k+1))+1:=by omega
   rw[this,zG];exact h3
def Azw:∀{cs:List (List Int)}{k:Nat}{c:List Int},c∈cs->∃n:Nat,((n:Int),c)∈idx k cs
 |[],_,_,h=>by cases h
 |d::cs,k,c,h=>by
  rcases zC.1 h with rfl|h
  .exact ⟨k,by simp[idx]⟩
  .obtain ⟨n,hn⟩:=Azw (k:=k+1) h;exact⟨n,by simp[idx,hn]⟩
def Bci:∀{cs:List (List Int)}{k:Nat},(idx k cs).map Prod.snd=cs
 |[],_=>rfl
 |c::cs,k=>by simp[idx,Bci]
def labN(p:api_Partition):List Int:=Aie (idx 0 p.Classes) (negs p.Rows.toNat)
def Asq{p:api_Partition}:(labN p).length=p.Rows.toNat:=by unfold labN;rw[Auc,Aho]
namespace q57_
def fill{x0:api_Partition}{J:List Int->Prop}(h0:0<=x0.Rows)(h1:x0.Rows<=1000)(hL:L2 x0 (negs x0.Rows.toNat) 0 J):∀(m k:Nat),k+m=x0.Rows.toNat->L1 x0 (negs k++zD m 0) k J
 |0,k,hk=>by
  apply K1;rw[if_neg (by simp;omega)];have:k=x0.Rows.toNat:=by omega
  simpa[this]using hL
 |m+1,k,hk=>by
  apply K1;rw[if_pos (by simp;omega)];have hl:(negs k).length=k:=Aho;refine⟨0,?_,?_⟩
  .rw [Ac6,zU (by omega)];simp[hl]
  .rw [Aa5 (by omega),Af4 (by omega) (by omega)];have:lset (negs k++zD (m+1) 0) (k:Int) (-1-(k:Int))=negs (k+1)++zD m 0:=by
    unfold lset;rw[zT,zZ _ _ (by omega),hl,Nat.sub_self,yB,yD];simp[negs,yK]
   rw[this];exact fill h0 h1 hL m (k+1) (by omega)
def inner{x0:api_Partition}{J:List Int->Prop}{c:List Int}{a:Int}{j:Nat}(hb:c.length<Big)(hj:j+1<Big):∀(r:List Int)(k:Nat)(l:List Int),c.drop k=r->(∀i∈r,0<=i/\i<l.length) ->
  L2 x0 (Agd a l r) ((j+1:Nat):Int) J->L3 x0 l a c j k J
 |[],k,l,hd,hin,h=>by
  apply K3;have:=Aap hd;rw[if_neg (by omega),Aa5 hj];exact h
 |i::r,k,l,hd,hin,h=>by
  apply K3;have hk:=Aaq hd;have hi:=hin i (by simp);rw[if_pos (by omega)];obtain⟨x,hx⟩:=Agu (l:=l) (i:=i) hi.1 hi.2;refine⟨i,Ab9 hd,x,hx,?_⟩;rw[Aa5 (by unfold Big at hb;omega)];exact inner hb hj r (k+1) _ (Aa8 hd) (fun q hq=>by rw[Ac9];exact hin q (by simp[hq])) h
def outer{x0:api_Partition}{J:List Int->Prop}(hb:Ajc x0):∀(cs:List (List Int))(k:Nat)(l:List Int),x0.Classes.drop k=cs->(∀c∈cs,∀i∈c,0<=i/\i<l.length) ->
  J (Aie (idx k cs) l)->L2 x0 l k J
 |[],k,l,hd,hin,h=>by
  apply K2;have:=Aap hd;rw[if_neg (by omega)];exact h
 |c::cs,k,l,hd,hin,h=>by
  apply K2;have hk:=Aaq hd;rw[if_pos (by omega)];have hcg:=Aab hd;refine⟨c,Ab9 hd,?_⟩;refine inner (hb.2 _ (zB hcg)) (by have:=hb.1;omega) c 0 l rfl (hin c (by simp)) ?_;exact outer hb cs (k+1) _ (Aa8 hd) (fun d hd i hi=>by rw[Ad7];exact hin d (by simp[hd]) i hi) h
def sP{x0:api_Partition}(hb:Ajc x0)(hv:Ad8 x0=true):C x0 (labN x0):=by
 obtain⟨v1,v2,v3⟩:=Agj.1 hv;obtain⟨r,h1,h2⟩:=nt x0 (fun r=>r=labN x0) (by
  refine⟨by omega,?_⟩;have:=fill (J:=fun r=>r=labN x0) v1 v2 (outer hb x0.Classes 0 _ rfl (fun c hc i hi=>by have:=v3.inn c hc i hi;rw[Aho];omega) rfl) x0.Rows.toNat 0 (by omega)
  simpa[negs]using this)
 rw[<-h1];exact h2
end q57_
def Asr{p:api_Partition}(hv:Ad8 p=true){i:Int}(h0:0<=i)(h1:i<p.Rows)(hn:∀c∈p.Classes,i ∉ c):lget (labN p) i=some (-1-i):=by
 obtain⟨v1,v2,v3⟩:=Agj.1 hv;unfold labN;rw[Ao8 (fun x hx=>?_) h0 (by rw[Aho];omega) (fun x hx=>?_)]
 .simp only[lget,if_pos h0];rw[Bie (by omega)];congr 1;omega
 .obtain ⟨n,_,_,h3⟩:=Ahu hx;intro j hj;have:=v3.inn _ (zB h3) j hj;rw[Aho];omega
 .obtain ⟨n,_,_,h3⟩:=Ahu hx;exact hn _ (zB h3)
def An4{p:api_Partition}(hv:Ad8 p=true){i:Int}{x:Int×List Int}(hc:x∈idx 0 p.Classes)(hi:i∈x.2):lget (labN p) i=some x.1:=by
 obtain⟨v1,v2,v3⟩:=Agj.1 hv;obtain⟨n,_,_,h3⟩:=Ahu hc;have hin:=v3.inn _ (zB h3) i hi;unfold labN;refine Axc (fun y hy=>?_) hin.1 (by rw[Aho];omega) ?_ hc hi
 .obtain ⟨n,_,_,h3⟩:=Ahu hy;intro j hj;have:=v3.inn _ (zB h3) j hj;rw[Aho];omega
 .have:=v3.disj;rw[<-Bci (cs:=p.Classes) (k:=0)]at this;exact yG.1 this
def Bg2{p:api_Partition}(hv:Ad8 p=true){i j:Int}(hi:0<=i/\i<p.Rows)(hj:0<=j/\j<p.Rows):lget (labN p) i=lget (labN p) j↔Same p i j:=by
 obtain⟨v1,v2,v3⟩:=Agj.1 hv;have inn:∀{i:Int},(∃c∈p.Classes,i∈c)->∃x∈idx 0 p.Classes,i∈x.2:=by
  rintro i ⟨c,hc,hi⟩;obtain⟨n,hn⟩:=Azw (k:=0) hc;exact⟨_,hn,hi⟩
 constructor
 .intro h;by_cases hic:∃c∈p.Classes,i∈c
  .obtain ⟨x,hx,hxi⟩:=inn hic;obtain⟨n,_,e1,g1⟩:=Ahu hx;rw[An4 hv hx hxi]at h;by_cases hjc:∃d∈p.Classes,j∈d
   .obtain ⟨y,hy,hyj⟩:=inn hjc;obtain⟨m,_,e2,g2⟩:=Ahu hy;rw[An4 hv hy hyj]at h;have h2:=zE h;have:n=m:=by omega
    subst this;rw[g1]at g2;have:=zE g2;exact .inr ⟨x.2,zB g1,hxi,by rw[this];exact hyj⟩
   .rw [Asr hv hj.1 hj.2 (fun c hc hjc'=>hjc ⟨c,hc,hjc'⟩)]at h;have h2:=zE h;omega
  .rw [Asr hv hi.1 hi.2 (fun c hc hic'=>hic ⟨c,hc,hic'⟩)]at h;by_cases hjc:∃d∈p.Classes,j∈d
   .obtain ⟨y,hy,hyj⟩:=inn hjc;obtain⟨m,_,e2,g2⟩:=Ahu hy;rw[An4 hv hy hyj]at h;have h2:=zE h;omega
   .rw [Asr hv hj.1 hj.2 (fun c hc hjc'=>hjc ⟨c,hc,hjc'⟩)]at h;exact .inl (by have:=zE h;omega)
 .rintro (rfl|⟨c,hc,h1,h2⟩)
  .rfl
  .obtain ⟨n,hn⟩:=Azw (k:=0) hc;rw[An4 hv hn h1,An4 hv hn h2]
def Alu(a b:api_Partition):Int:=if Ad8 a then(if Ad8 b then(if a.Rows=b.Rows then 0 else 6)else 1)else 1
def q85_.sP{a b:api_Partition}(ha:Ajc a)(hb:Ajc b):q85_.C a b (Alu a b):=by
 obtain⟨r,h1,h2⟩:=q85_.nt a b (fun r=>r=Alu a b) (by
  refine⟨_,q73_.sP ha,?_⟩;unfold Alu
  split
  .refine ⟨_,q73_.sP hb,?_⟩
   split
   .split
    .rfl
    .rfl
   .rfl
  .rfl)
 rw[<-h1];exact h2
def Apn{rows:Int}:∀{cs:List (List Int)}{c:List Int},CP rows cs->c∈cs->(c.length:Int)-1<=Ai5 cs/\(cs.length:Int)<=Ai5 cs
 |[],_,_,h=>by cases h
 |d::cs,c,hp,h=>by
  have hd:=hp.two d (by simp);have hp':CP rows cs:=⟨fun c hc=>hp.two c (by simp[hc]),fun c hc=>hp.inc c (by simp[hc]),fun c hc=>hp.inn c (by simp[hc]),(zA.1 hp.heads).2,(zA.1 hp.disj).2⟩
  have hnn:∀{cs:List (List Int)},CP rows cs->(cs.length:Int)<=Ai5 cs:=by
   intro cs
   induction cs with
   |nil=>intro _;simp[Ai5]
   |cons e cs ih=>
    intro hq;have he:=hq.two e (by simp);have:=ih ⟨fun c hc=>hq.two c (by simp[hc]),fun c hc=>hq.inc c (by simp[hc]),fun c hc=>hq.inn c (by simp[hc]),(zA.1 hq.heads).2,(zA.1 hq.disj).2⟩;simp only[Ai5,zF];omega
  have h1:=hnn hp';simp only[Ai5,zF];refine⟨?_,by omega⟩;rcases zC.1 h with rfl|h
  .omega
  .have:=(Apn hp' h).1;omega
def Bp4{x:api_Partition}(hv:Ad8 x=true):x.Classes.length<=1000/\∀c∈x.Classes,c.length<=1001:=by
 obtain⟨v1,v2,v3⟩:=Agj.1 hv;obtain⟨w1,w2,w3⟩:=Bb2 hv;have h1:=(Ato (by simp;omega) w3).2;rw[Avn]at h1;refine⟨?_,fun c hc=>?_⟩
 .cases hcs:x.Classes with
  |nil=>simp
  |cons c cs=>
   have:=(Apn v3 (c:=c) (by rw[hcs];simp)).2;rw[hcs]at this h1;omega
 .have:=(Apn v3 hc).1;omega
def lab1(r:List Int)(i:Int):Int:=(lget r i).getD 0
def Bcj{r:List Int}{i a:Int}(h:lget r i=some a):lab1 r i=a:=by simp[lab1,h]
def Bi4{r:List Int}{i j:Int}(hi:0<=i/\i<r.length)(hj:0<=j/\j<r.length):lab1 r i=lab1 r j↔lget r i=lget r j:=by
 obtain⟨a,ha⟩:=Agu hi.1 hi.2;obtain⟨b,hb⟩:=Agu hj.1 hj.2;simp[lab1,ha,hb]
def cls{O:Type}[DecidableEq O](l:List O)(a:O):List Int:=((zW l.length).filter fun k=>decide (l[k]?=some a)).map fun(k:Nat)=>(k:Int)
def fsts{O:Type}[DecidableEq O](l:List O):List O:=l.foldl (fun acc a=>if a∈acc then acc else acc++[a]) []
def grpF{O:Type}[DecidableEq O](l:List O):List (List Int):=((fsts l).map (cls l)).filter fun c=>decide (2<=c.length)
section
variable{O:Type}[DecidableEq O]
def Ado{l:List O}{a:O}:fsts (l++[a])=if a∈fsts l then fsts l else fsts l++[a]:=by
 unfold fsts;rw[List.foldl_append];rfl
def Ahg{p:List O->Prop}(h0:p [])(h1:∀l a,p l->p (l++[a])):∀l,p l:=by
 intro l;have:∀n (l:List O),l.length=n->p l:=by
  intro n
  induction n with
  |zero=>intro l hl;rw[List.length_eq_zero_iff.1 hl];exact h0
  |succ n ih=>
   intro l hl;have hne:l≠[]:=fun h=>by rw[h]at hl;simp at hl
   rw[<-List.dropLast_concat_getLast hne];exact h1 _ _ (ih _ (by simp[hl]))
 exact this _ l rfl
def Aj2{l:List O}{a:O}:a∈fsts l↔a∈l:=by
 refine Ahg (p:=fun l=>a∈fsts l↔a∈l) (by simp[fsts]) (fun l b ih=>?_) l;rw[Ado]
 split
 .rename_i hb;rw[ih];simp only[zM,zQ];constructor
  .exact .inl
  .rintro (h|rfl)
   .exact h
   .have:a∈fsts l:=hb;exact ih.1 this
 .simp only[zM,zQ,ih]
def Bdp{l:List O}:(fsts l).Nodup:=by
 refine Ahg (p:=fun l=>(fsts l).Nodup) (by simp[fsts]) (fun l b ih=>?_) l;rw[Ado]
 split
 .exact ih
 .rename_i hb;rw[List.nodup_append];exact⟨ih,by simp,fun x hx y hy=>by simp at hy;subst hy;exact fun h=>hb (h ▸ hx)⟩
def Anu{l:List O}{a b:O}:cls (l++[b]) a=if b=a then cls l a++[(l.length:Int)]else cls l a:=by
 unfold cls;rw[List.length_append,zY,yK,zR,zN];have h1:((zW l.length).filter fun k=>decide ((l++[b])[k]?=some a))=(zW l.length).filter fun k=>decide (l[k]?=some a):=by
  refine yH fun k hk=>?_;rw[List.getElem?_append_left (by simpa using hk)]
 rw[h1];by_cases h:b=a
 .simp [h]
 .simp [h]
def Bjl{l:List O}{a:O}(h:a ∉ l):cls l a=[]:=by
 unfold cls;have:((zW l.length).filter fun k=>decide (l[k]?=some a))=[]:=by
  rw[List.filter_eq_nil_iff];intro k _ hk;exact h (zB (by simpa using hk))
 rw[this];rfl
def Afu{l:List O}{a:O}{i:Int}:i∈cls l a↔lget l i=some a:=by
 unfold cls;simp only[yE,yL,List.mem_range,decide_eq_true_eq];constructor
 .rintro ⟨k,⟨_,h⟩,rfl⟩;rw[Ac6];exact h
 .intro h;obtain⟨h0,h1⟩:=Ac0 h;exact⟨i.toNat,⟨(zO.1 h1).1,h1⟩,by omega⟩
end
def Aet(c:List Int):Bool:=decide (2<=c.length)
def Ax7{c:List Int}:decide ((c.length:Int)<2)=!Aet c:=by
 unfold Aet;by_cases h:(c.length:Int)<2
 .have:¬2<=c.length:=by omega
  simp[h,this]
 .have:2<=c.length:=by omega
  simp[h,this]
def Ag7:List (List Int)->Nat->Int
 |[],_=>-1
 |c::cs,k=>if Aet c then Ag7 cs (k+1)else(k:Int)
def Aov:∀{l:List (List Int)}{k:Nat},(Ag7 l k = -1/\∀c∈l,Aet c=true)∨∃n:Nat,Ag7 l k=((k+n:Nat):Int)/\n<l.length/\(∀c∈l.take n,Aet c=true)/\∃c,l[n]?=some c/\Aet c=false
 |[],_=>.inl ⟨rfl,by simp⟩
 |c::l,k=>by
  simp only[Ag7];cases hc:Aet c with
  |false=>exact .inr ⟨0,by simp,by simp,by simp,c,rfl,hc⟩
  |true=>
   simp only[if_true];rcases Aov (l:=l) (k:=k+1)with⟨h1,h2⟩|⟨n,h1,h2,h3,h4⟩
   .exact .inl ⟨h1,by simpa[hc]using h2⟩
   .refine .inr ⟨n+1,by rw[h1];congr 1;omega,by simpa using h2,by simpa[hc]using h3,by simpa using h4⟩
def ixn{O:Type}[DecidableEq O]:List O->O->Nat
 |[],_=>0
 |b::l,a=>if b=a then 0 else ixn l a+1
def Bfx{O:Type}[DecidableEq O]{a:O}:∀{l:List O},a∈l->ixn l a<l.length
 |[],h=>by cases h
 |b::l,h=>by
  simp only[ixn,zF]
  split
  .omega
  .rename_i hb;have:=Bfx (l:=l) (a:=a) ((zC.1 h).resolve_left fun h=>hb h.symm);omega
def Avs{O:Type}[DecidableEq O]{a:O}:∀{l:List O},a∈l->l[ixn l a]?=some a
 |[],h=>by cases h
 |b::l,h=>by
  simp only[ixn]
  split
  .rename_i hb;subst hb;rfl
  .rename_i hb;rw[zG];exact Avs ((zC.1 h).resolve_left fun h=>hb h.symm)
def Bfw{O:Type}[DecidableEq O]{a:O}:∀{l m:List O},a∈l->ixn (l++m) a=ixn l a
 |[],_,h=>by cases h
 |b::l,m,h=>by
  simp only[yJ,ixn]
  split
  .rfl
  .rename_i hb;rw[Bfw ((zC.1 h).resolve_left fun h=>hb h.symm)]
def Azx{O:Type}[DecidableEq O]{a:O}:∀{l:List O},a ∉ l->ixn (l++[a]) a=l.length
 |[],_=>by simp[ixn]
 |b::l,h=>by
  simp only[zC,not_or]at h;simp only[yJ,ixn,if_neg (Ne.symm h.1),zF];rw[Azx h.2]
def Azz{O:Type}[DecidableEq O]{a:O}:∀{l:List O}{q:Nat},l.Nodup->l[q]?=some a->ixn l a=q
 |[],q,_,h=>by simp at h
 |b::l,0,_,h=>by
  simp only[List.getElem?_cons_zero,zJ]at h;simp[ixn,h]
 |b::l,q+1,hl,h=>by
  simp only[zG]at h;have hn:=List.nodup_cons.1 hl;have:b≠a:=fun hb=>hn.1 (hb ▸ zB h);simp only[ixn,if_neg this,Azz hn.2 h]
def ixOf{O:Type}[DecidableEq O](m:List (O×Int))(ks:List O):Prop:=∀a,mget a m=if a∈ks then some ((ixn ks a:Nat):Int)else none
def Axj{κ ν:Type}[DecidableEq κ]{k k':κ}{v:ν}:∀{l:List (κ×ν)},mget k' (mset k v l)=if k=k' then some v else mget k' l
 |[]=>by
  by_cases h:k=k'
  .subst h;simp[mset,mget]
  .simp [mset,mget,h,Ne.symm h]
 |(a,b)::l=>by
  have ih:=Axj (k:=k) (k':=k') (v:=v) (l:=l);simp only[mset];by_cases h1:k=a
  .subst h1;simp only[if_true,mget];by_cases h2:k'=k
   .subst h2;simp
   .simp [h2,Ne.symm h2]
  .simp only[if_neg h1,mget];by_cases h2:k'=a
   .subst h2;simp[h1]
   .simp only[if_neg h2];exact ih
end Go.Own
namespace Go.Own
open Go.Proofs D
set_option maxRecDepth 100000
set_option maxHeartbeats 4000000
namespace q18_
def B:=bd Tryz.f140
def W:=[0,2]
def res(r:Bool):D×List D:=(bL r,[])
def C(x0:List Int)(r:Bool):Prop:=Ret env 140 [.sl (x0.map (eI .i64))] (res r).1 (res r).2
def nt(x0:List Int)(J:Bool->Prop)(h:J (decide ((x0.length:Int)<2))):∃r,J r/\C x0 r:=mE Tryz.f140 B W res<|mLen 5 (eI .i64) x0<|mRet 3 h
end q18_
namespace q3_
def B:=bd Tryz.f135
def W:=[0,1,4,5,7,8,9,16]
def res(r:Int):D×List D:=(iL r,[])
def C(x0:List (List Int))(r:Int):Prop:=Ret env 135 [.sl (x0.map (eSl (eI .i64))),.fn 140 []] (res r).1 (res r).2
def L1(x0:List (List Int))(z0:Int)(J:Int->Prop):Prop:=Pt env 135 W B [1,0,1,0] [(0,.sl (x0.map (eSl (eI .i64)))),(1,.fn 140 []),(7,iL (x0.length:Int)),(8,iL z0)] (Lv env 135 Tryz.f135 2 res J)
def K1(x0:List (List Int))(z0:Int)(J:Int->Prop)(h:(if z0<(x0.length:Int)then ∃a1,lget x0 z0=some a1/\∃r3:Bool,q18_.C a1 r3/\(if r3=true then J z0 else L1 x0 (IntKind.wrap .i64 (z0+1)) J)else J (-1))):L1 x0 z0 J:=mIn<|mAsk 2 h dT dF (fun h=>mIx 11 (eSl (eI .i64)) h fun a1 h2 h=>Ab3 1 h (fun _ h=>h) (fun _ h=>mRet 6 h) fun _ h=>mFin 7 h) fun h=>mRet 6 h
def nt(x0:List (List Int))(J:Int->Prop)(h:L1 x0 0 J):∃r,J r/\C x0 r:=mE Tryz.f135 B W res<|mLen 5 (eSl (eI .i64)) x0<|mFin 2 h
end q3_
namespace q2_
def B:=bd Tryz.f139
def W:=[0,1,4,5,6,7,12,19,29]
def res(r:(List (List Int)×Bool)):D×List D:=((sown (r.1.map (eSl (eI .i64))) r.2),[])
def C(k0_0:List (List Int))(r:(List (List Int)×Bool)):Prop:=Ret env 139 [.own (k0_0.map (eSl (eI .i64))),.fn 140 []] (res r).1 (res r).2
def L1(k0_0:List (List Int))(r1 z0:Int)(J:(List (List Int)×Bool)->Prop):Prop:=Pt env 139 W B [1,1,1,0,1,0] [(0,.own (k0_0.map (eSl (eI .i64)))),(1,.fn 140 []),(5,iL r1),(6,iL z0)] (Lv env 139 Tryz.f139 2 res J)
def L2(k0_0:List (List Int))(r1 z0:Int)(J:(List (List Int)×Bool)->Prop):Prop:=Pt env 139 W B [1,1,1,0,1,0,0,1,1] [(0,.own (k0_0.map (eSl (eI .i64)))),(1,.fn 140 []),(5,iL r1),(6,iL z0)] (Lv env 139 Tryz.f139 2 res J)
def K1(k0_0:List (List Int))(r1 z0:Int)(J:(List (List Int)×Bool)->Prop)(h:(if z0<(k0_0.length:Int)then ∃a2,lget k0_0 z0=some a2/\∃r4:Bool,q18_.C a2 r4/\(if r4=true then L2 k0_0 r1 z0 J else ∃a5,lget k0_0 r1=some a5/\L2 (lset k0_0 r1 a2) (IntKind.wrap .i64 (r1+1)) z0 J)else 0<=r1/\(r1.toNat<=k0_0.length/\k0_0.length<=k0_0.length)/\r1.toNat+(k0_0.length-r1.toNat)<=k0_0.length/\0<=r1/\r1.toNat+(k0_0.length-r1.toNat)<=k0_0.length/\r1.toNat<=k0_0.length/\(r1.toNat+(k0_0.length-r1.toNat)<=k0_0.length/\r1.toNat<=k0_0.length/\r1.toNat<=r1.toNat)/\J (⟨(zH r1.toNat k0_0),(!((zH r1.toNat k0_0).isEmpty))⟩))):L1 k0_0 r1 z0 J:=mIn<|mLen 4 (eSl (eI .i64)) k0_0<|mAsk 0 h dT dF (fun h=>mIy 6 (eSl (eI .i64)) h fun a2 h3 h=>mLd 0 (eSl (eI .i64)) h3<|Ab3 5 h (fun _ h=>h) (fun _ h=>mFin 4 h) fun _ h=>mIy 7 (eSl (eI .i64)) h fun a5 h6 h=>mSto 0 (eSl (eI .i64)) a2 h6<|mFin 6 h) fun h=>h.elim fun h7 h=>h.elim fun h8 h=>mVl 6 (Alm (s:=0) (ps:=[]) (t:=125) (x:=(.tmp 36)) (lo:=(some (.tmp 37))) (hi:=none) (lo':=some (r1).toNat) (hi':=none) (e:=(eSl (eI .i64))) (l:=k0_0) (et:=92) (k:=1) (by kernel_rfl) (by kernel_rfl) (Agp (by kernel_rfl)) (Aeo (i:=r1) (q:=.i64) (by kernel_rfl) h7) Afv (by kernel_rfl) (by kernel_rfl) (fun _=>rfl) (by kernel_rfl) h8.1 h8.2)<|h.elim fun h9 h=>mOp 0 (Bah (t:=125) (x:=(.tmp 38)) (s:=0) (ps:=[]) (off:=r1.toNat) (len:=(k0_0.length-r1.toNat)) (l:=k0_0) (e:=(eSl (eI .i64))) (et:=92) (z:=.own []) (k:=1) (by kernel_rfl) (by kernel_rfl) (by kernel_rfl) (by kernel_rfl) (by kernel_rfl) (by kernel_rfl) (by kernel_rfl) (by kernel_rfl) (fun _=>rfl) h9 (by kernel_rfl)) <|
 h.elim fun h10 h=>h.elim fun h11 h=>h.elim fun h12 h=>mVl 4 (Ap2 (t:=125) (x:=(.tmp 39)) (hi:=(some (.tmp 40))) (hi':=r1.toNat) (e:=(eSl (eI .i64))) (l:=k0_0) (off:=r1.toNat) (len:=(k0_0.length-r1.toNat)) (z:=.own []) (et:=92) (k:=1) (s:=0) (ps:=[]) (by kernel_rfl) (by kernel_rfl) (by kernel_rfl) (Aeo (i:=r1) (q:=.i64) (by kernel_rfl) h10) (by kernel_rfl) (by kernel_rfl) (fun _=>rfl) (by kernel_rfl) (by kernel_rfl) h11 h12)<|h.elim fun h13 h=>mRet 2 h (hl:=(Axd (t:=4) (s:=0) (n:=r1.toNat) (m:=(zH r1.toNat k0_0)) (e:=(eSl (eI .i64))) (es:=clr (eSl (eI .i64)) k0_0 r1.toNat (k0_0.length-r1.toNat) (.own [])) (by kernel_rfl) (by kernel_rfl) (by kernel_rfl) (by rw[Avi (by first|exact h13.1|omega)];exact h13.2.1) (Az8 h13.1 h13.2.2) (by kernel_rfl)))
def K2(k0_0:List (List Int))(r1 z0:Int)(J:(List (List Int)×Bool)->Prop)(h:L1 k0_0 r1 (IntKind.wrap .i64 (z0+1)) J):L2 k0_0 r1 z0 J:=mIn<|mFin 5 h
def nt(k0_0:List (List Int))(J:(List (List Int)×Bool)->Prop)(h:∃r1:Int,q3_.C k0_0 r1/\(if r1=(-1)then J (⟨k0_0,true⟩)else L1 k0_0 r1 (IntKind.wrap .i64 (r1+1)) J)):∃r,J r/\C k0_0 r:=mE Tryz.f139 B W res<|mCal 6 h (fun _ h=>h) (hr:=by exact(Abs (Aba (s:=0) (ps:=[]) (l:=k0_0) (e:=(eSl (eI .i64))) (e':=(eSl (eI .i64))) (fun _=>rfl) (by kernel_rfl)) (pr_k Ad2))) fun r1 _ h=>mAsk 4 h Abd Abc (fun h=>mRet 6 h) fun h=>mFin 8 h
end q2_
namespace q19_
def B:=bd Tryz.f119
def W:=[0,2,3,4,5,6,7,8,10,11,12,13,24]
def res(r:List (List Int)):D×List D:=(.sl (r.map (eSl (eI .i64))),[])
def C(x0:List ByteArray)(r:List (List Int)):Prop:=Ret env 119 [.sl (x0.map eS)] (res r).1 (res r).2
def L1(x0:List ByteArray)(z0:List (ByteArray×Int))(z1:List (List Int))(z2:Int)(J:List (List Int)->Prop):Prop:=Pt env 119 W B [1,1,1,0,1,0] [(0,.sl (x0.map eS)),(3,(eMap Value.string (fun(x:Int)=>D.lit (.int .i64 x)) z0)),(4,.own (z1.map (eOw (eI .i64)))),(10,.sl (x0.map eS)),(11,iL (x0.length:Int)),(12,iL z2)] (Lv env 119 Tryz.f119 1 res J)
def L2(x0:List ByteArray)(z0:List (ByteArray×Int))(z1:List (List Int))(z2 z3:Int)(J:List (List Int)->Prop):Prop:=Pt env 119 W B [1,1,1,0,1,0,0,1,1,0,0,1,1,1] [(0,.sl (x0.map eS)),(3,(eMap Value.string (fun(x:Int)=>D.lit (.int .i64 x)) z0)),(4,.own (z1.map (eOw (eI .i64)))),(5,iL z2),(7,iL z3),(10,.sl (x0.map eS)),(11,iL (x0.length:Int)),(12,iL z2)] (Lv env 119 Tryz.f119 1 res J)
def K1(x0:List ByteArray)(z0:List (ByteArray×Int))(z1:List (List Int))(z2:Int)(J:List (List Int)->Prop)(h:(if z2<(x0.length:Int)then ∃a1,lget x0 z2=some a1/\(if(mhas a1 z0)=true then L2 x0 z0 z1 z2 (Be2 a1 z0 0) J else(z1.length+1)*24<=140737488355328/\L2 x0 (mset a1 (z1.length:Int) z0) (z1++[[]]) z2 (z1.length:Int) J)else ∃r4:(List (List Int)×Bool),q2_.C z1 r4/\J r4.1)):L1 x0 z0 z1 z2 J:=mIn<|mAsk 2 h dT dF (fun h=>mIx 5 eS h fun a1 h2 h=>mVl 7 (Bb1 Bfy (fun _=>by kernel_rfl) (ek:=Value.string) (ev:=(fun(x:Int)=>D.lit (.int .i64 x))) (t:=185) (x:=(.tmp 18)) (kx:=(.tmp 19)) (s:=3) (ps:=[]) (l:=z0) (kd:=tL a1) (kv:=a1) (kt:=9) (vt:=3) (v0:=0) (by kernel_rfl) (by kernel_rfl) (by kernel_rfl) (by kernel_rfl) (by kernel_rfl) (by kernel_rfl) (by kernel_rfl) (by kernel_rfl))<|mAsk 7 h id fls (fun h=>mFin 4 h) fun h=>mLen 5 (eOw (eI .i64)) z1<|mOp 6 (Bai Bfy (fun _=>by kernel_rfl) (ek:=Value.string) (ev:=(fun(x:Int)=>D.lit (.int .i64 x))) (t:=185) (mx:=(.tmp 27)) (kx:=(.tmp 28)) (vx:=(.tmp 29)) (s:=3) (ps:=[]) (l:=z0) (kd:=tL a1) (kv:=a1) (kt:=9) (vt:=3) (v:=(z1.length:Int)) (d:=iL (z1.length:Int)) (by kernel_rfl) (by kernel_rfl) (by kernel_rfl) (by kernel_rfl) (by kernel_rfl) (by kernel_rfl) (by kernel_rfl) (by kernel_rfl) (by kernel_rfl) (Ard (by kernel_rfl)))<|mApp 4 (eOw (eI .i64)) z1 ([[]]) h fun h=>mFin 2 h) fun h=>mXit 2 [(4,.own (z1.map (eSl (eI .i64))))] (Beo (F0:=[(4,.own (z1.map (eOw (eI .i64))))]) (l:=z1) (e:=(eI .i64)) (e':=(eI .i64)) (s:=4) (by kernel_rfl) (by kernel_rfl) (by kernel_rfl) (fun _=>rfl) (by kernel_rfl) (by kernel_rfl)) <|
 Ayg 2 h (fun _ h=>h) (fun(r4:(List (List Int)×Bool))=>Awn (l:=r4.1) (e:=(eSl (eI .i64))) rfl (fun _=>rfl)) (hf:=(fun _=>Ahn)) fun r4 _ h=>mRet 2 h
def K2(x0:List ByteArray)(z0:List (ByteArray×Int))(z1:List (List Int))(z2 z3:Int)(J:List (List Int)->Prop)(h:∃a5,lget z1 z3=some a5/\(a5.length+1)*8<=140737488355328/\L1 x0 z0 (lset z1 z3 (a5++[z2])) (IntKind.wrap .i64 (z2+1)) J):L2 x0 z0 z1 z2 z3 J:=mIn<|mIy 5 (eOw (eI .i64)) h fun a5 h6 h=>mLd 0 (eOw (eI .i64)) h6<|h.elim fun h7 h=>mOp 2 (app2 (x:=(.tmp 38)) (y:=(.tmp 40)) (t:=92) (u:=92) (et:=3) (z:=iL 0) (k:=1) (c:=8) (e:=(eI .i64)) (l:=a5) (m:=[z2]) (by kernel_rfl) (by kernel_rfl) (by kernel_rfl) (by kernel_rfl) (by kernel_rfl) (Blt (s:=4) (ps:=[]) (n:=(z3.toNat)) (c:=0) (e:=(eOw (eI .i64))) (l:=z1) (a:=a5) (by kernel_rfl) (by kernel_rfl) (Ac0 h6).2 (by kernel_rfl) (by kernel_rfl) (Ard (by kernel_rfl))) (by kernel_rfl) (by kernel_rfl) (by kernel_rfl) (by kernel_rfl) (by kernel_rfl) (fun _=>rfl) h7)<|mVl 0 (Baz (s:=4) (ps:=[]) (cs:=[.undef]) (t:=125) (x:=(.tmp 33)) (ix:=(.tmp 34)) (et:=92) (k:=1) (e:=(eOw (eI .i64))) (l:=z1) (i:=z3) (q:=.i64) (a:=a5) (by kernel_rfl) (by kernel_rfl) (by kernel_rfl) (by kernel_rfl) (by kernel_rfl) (by kernel_rfl) h6 (by kernel_rfl))<|mOp 0 (Bog (t:=92) (x:=(.tmp 42)) (y:=(.tmp 41)) (s:=4) (ps:=[]) (n:=(z3.toNat)) (e:=(eOw (eI .i64))) (l:=z1) (a:=a5) (b:=(a5++[z2])) (k:=1) (cs:=[.undef]) (d:=.own ((a5++[z2]).map (eI .i64))) (by kernel_rfl) (by kernel_rfl) (by kernel_rfl) (by kernel_rfl) (Ac0 h6).2 (by kernel_rfl) (by kernel_rfl) (by kernel_rfl) (by kernel_rfl) (by kernel_rfl) (Ard (by kernel_rfl))) <|
 mFin 5 h
def nt(x0:List ByteArray)(J:List (List Int)->Prop)(h:L1 x0 ([]) ([]) 0 J):∃r,J r/\C x0 r:=mE Tryz.f119 B W res<|mLen 12 eS x0<|mFin 2 h
end q19_
end Go.Own
namespace Go.Own
def q18_.sP{c:List Int}:q18_.C c (decide ((c.length:Int)<2)):=by
 obtain⟨r,h1,h2⟩:=q18_.nt c (fun r=>r=decide ((c.length:Int)<2)) rfl;rw[<-h1];exact h2
namespace q3_
def loop{x0:List (List Int)}{J:Int->Prop}(hn:x0.length<Big):∀(r:List (List Int))(k:Nat),x0.drop k=r->J (Ag7 r k)->L1 x0 k J
 |[],k,hd,h=>by
  apply K1;have:=Aap hd;rw[if_neg (by omega)];exact h
 |c::r,k,hd,h=>by
  apply K1;have hk:=Aaq hd;rw[if_pos (by omega)];refine⟨c,Ab9 hd,_,q18_.sP,?_⟩;rw[Ax7];simp only[Ag7]at h
  split
  .rename_i h1;have:Aet c=false:=by simpa using h1
   rw[this]at h;exact h
  .rename_i h1;have:Aet c=true:=by simpa using h1
   rw[this]at h;rw[Aa5 (by unfold Big at hn;omega)];exact loop hn r (k+1) (Aa8 hd) h
def sP{x0:List (List Int)}(hn:x0.length<Big):C x0 (Ag7 x0 0):=by
 obtain⟨r,h1,h2⟩:=nt x0 (fun r=>r=Ag7 x0 0) (loop hn x0 0 rfl rfl);rw[<-h1];exact h2
end q3_
namespace q2_
def loop{x0:List (List Int)}{J:List (List Int)×Bool->Prop}(hn:x0.length<Big)(hφ:∀b,J (x0.filter Aet,b)):∀(r:List (List Int))(k j:Nat)(l:List (List Int)),x0.drop k=r->l.length=x0.length->l.drop k=x0.drop k->l.take j=(x0.take k).filter Aet->j<=k->k<=x0.length->L1 l j k J
 |[],k,j,l,hd,hl,h1,h2,h3,h4=>by
  apply K1;have hk:=Aap hd;rw[if_neg (by omega)];refine⟨by omega,⟨by omega,by omega⟩,by omega,by omega,by omega,by omega,⟨by omega,by omega,by omega⟩,?_⟩;rw[zT,h2,zK hk];exact hφ _
 |c::r,k,j,l,hd,hl,h1,h2,h3,h4=>by
  apply K1;have hk:=Aaq hd;rw[if_pos (by omega)];have hlk:l.drop k=c::r:=by rw[h1,hd]
  refine⟨c,Ab9 hlk,_,q18_.sP,?_⟩;rw[Ax7];have htk:x0.take (k+1)=x0.take k++[c]:=by rw[zL,Aab hd];rfl
  split
  .rename_i hc;have hc:Aet c=false:=by simpa using hc
   apply K2;rw[Aa5 (by unfold Big at hn;omega)];refine loop hn hφ r (k+1) j l (Aa8 hd) hl ?_ ?_ (by omega) (by omega)
   .rw [Aa8 hlk,Aa8 hd]
   .rw [htk,zR,h2];simp[hc]
  .rename_i hc;have hc:Aet c=true:=by simpa using hc
   obtain⟨a,ha⟩:=Agu (l:=l) (i:=(j:Int)) (by omega) (by omega);refine⟨a,ha,?_⟩;apply K2;rw[Aa5 (by unfold Big at hn;omega),Aa5 (by unfold Big at hn;omega)];have hs:lset l (j:Int) c=l.set j c:=by simp[lset]
   rw[hs];refine loop hn hφ r (k+1) (j+1) (l.set j c) (Aa8 hd) (by simp[hl]) ?_ ?_ (by omega) (by omega)
   .rw [List.drop_set_of_lt (by omega),Aa8 hlk,Aa8 hd]
   .rw [htk,zR,<-h2,zL];have e1:(l.set j c)[j]?=some c:=by rw[List.getElem?_set_self (by omega)]
    rw[e1,List.take_set_of_le (by omega)];simp[hc]
def sP{x0:List (List Int)}(hn:x0.length<Big):∃b,C x0 (x0.filter Aet,b):=by
 obtain⟨r,h1,h2⟩:=nt x0 (fun r=>r.1=x0.filter Aet) (by
  refine⟨_,q3_.sP hn,?_⟩;rcases Aov (l:=x0) (k:=0)with⟨h1,h2⟩|⟨n,h1,h2,h3,c,h4,h5⟩
  .rw [if_pos h1];exact(yC.2 h2).symm
  .rw [if_neg (by omega),h1,Nat.zero_add,Aa5 (by unfold Big at hn;omega)];refine loop (J:=fun r=>r.1=x0.filter Aet) hn (fun b=>rfl) _ (n+1) n x0 rfl rfl rfl ?_ (by omega) (by omega);have htk:x0.take (n+1)=x0.take n++[c]:=by rw[zL,h4];rfl
   rw[htk,zR,yC.2 h3]
   simp[h5])
 obtain⟨l,b⟩:=r;simp only at h1;subst h1;exact⟨b,h2⟩
end q2_
namespace q19_
def loop{x0:List ByteArray}{J:List (List Int)->Prop}(hn:x0.length<=10000)(hφ:J (grpF x0)):∀(r:List ByteArray)(k:Nat)(m:List (ByteArray×Int)),x0.drop k=r->ixOf m (fsts (x0.take k))->L1 x0 m ((fsts (x0.take k)).map (cls (x0.take k))) k J
 |[],k,m,hd,hm=>by
  apply K1;have hk:=Aap hd;rw[if_neg (by omega),zK hk];have hlen:((fsts x0).map (cls x0)).length<Big:=by
   rw[zI];have:∀l:List ByteArray,(fsts l).length<=l.length:=by
    intro l;refine Ahg (p:=fun l=>(fsts l).length<=l.length) (by simp[fsts]) (fun l b ih=>?_) l;rw[Ado]
    split
    .simp;omega
    .simp;omega
   have:=this x0;unfold Big;omega
  obtain⟨b,hb⟩:=q2_.sP hlen;exact⟨_,hb,hφ⟩
 |a::r,k,m,hd,hm=>by
  apply K1;have hk:=Aaq hd;rw[if_pos (by omega)];refine⟨a,Ab9 hd,?_⟩;have htk:x0.take (k+1)=x0.take k++[a]:=by rw[zL,Aab hd];rfl
  have hlen:(x0.take k).length=k:=by rw[List.length_take];omega
  have hle:(fsts (x0.take k)).length<=10000:=by
   have:∀l:List ByteArray,(fsts l).length<=l.length:=by
    intro l;refine Ahg (p:=fun l=>(fsts l).length<=l.length) (by simp[fsts]) (fun l b ih=>?_) l;rw[Ado]
    split
    .simp;omega
    .simp;omega
   have:=this (x0.take k);omega
  have hcl:∀b,(cls (x0.take k) b).length<=10000:=fun b=>by
   unfold cls;rw[zI];exact Nat.le_trans (List.length_filter_le _ _) (by simp;omega)
  by_cases ha:a∈fsts (x0.take k)
  .have hg:mget a m=some ((ixn (fsts (x0.take k)) a:Nat):Int):=by rw[hm a,if_pos ha]
   rw[if_pos (by simp[mhas,hg])];apply K2;have hi:ixn (fsts (x0.take k)) a<(fsts (x0.take k)).length:=Bfx ha;have hgd:Be2 a m 0=((ixn (fsts (x0.take k)) a:Nat):Int):=by simp[Be2,hg]
   rw[hgd];refine⟨cls (x0.take k) a,?_,by have:=hcl a;omega,?_⟩
   .rw [Ac6,zV,Avs ha];rfl
   .rw [Aa5 (by omega)];have ih:=loop hn hφ r (k+1) m (Aa8 hd) (by rw[htk,Ado,if_pos ha];exact hm);rw[htk,Ado,if_pos ha]at ih;have e:(fsts (x0.take k)).map (cls (x0.take k++[a]))=lset ((fsts (x0.take k)).map (cls (x0.take k))) ((ixn (fsts (x0.take k)) a:Nat):Int) (cls (x0.take k) a++[(k:Int)]):=by
     unfold lset;rw[zT];apply List.ext_getElem?;intro q;rw[zV,List.getElem?_set,zV,zI];by_cases hq:ixn (fsts (x0.take k)) a=q
     .subst hq;rw[if_pos rfl,if_pos hi,Avs ha];simp[Anu,hlen]
     .rw [if_neg hq];cases hv:(fsts (x0.take k))[q]? with
      |none=>rfl
      |some b=>
       simp only[Option.map_some,zJ];rw[Anu,if_neg];rintro rfl;exact hq (Azz Bdp hv)
    rw[e]at ih;exact ih
  .have hg:mget a m=none:=by rw[hm a,if_neg ha]
   rw[if_neg (by simp[mhas,hg])];have hal:a ∉ x0.take k:=fun h=>ha (Aj2.2 h);refine⟨by rw[zI];omega,?_⟩;apply K2;refine⟨[],?_,by simp,?_⟩
   .rw [Ac6,zU (yI _)];simp
   .rw [Aa5 (by omega),zI];have ih:=loop hn hφ r (k+1) (mset a ((fsts (x0.take k)).length:Int) m) (Aa8 hd) (by
     rw[htk,Ado,if_neg ha];intro b;rw[Axj];by_cases hab:a=b
     .subst hab;rw[if_pos rfl,if_pos (by simp),Azx ha]
     .rw [if_neg hab,hm b];have:b∈fsts (x0.take k)++[a]↔b∈fsts (x0.take k):=by simp[Ne.symm hab]
      by_cases hb:b∈fsts (x0.take k)
      .rw [if_pos hb,if_pos (this.2 hb),Bfw hb]
      .rw [if_neg hb,if_neg (fun h=>hb (this.1 h))])
    rw[htk,Ado,if_neg ha]at ih;have e:(fsts (x0.take k)++[a]).map (cls (x0.take k++[a]))=lset ((fsts (x0.take k)).map (cls (x0.take k))++[[]]) ((fsts (x0.take k)).length:Int) ([]++[(k:Int)]):=by
     unfold lset;rw[zT,zZ _ _ (by simp),zI,Nat.sub_self,yD,zN];congr 1
     .refine List.map_congr_left fun b hb=>?_;rw[Anu,if_neg];rintro rfl;exact ha hb
     .simp [Anu,Bjl hal,hlen]
    rw[e]at ih;exact ih
def sP{x0:List ByteArray}(hn:x0.length<=10000):C x0 (grpF x0):=by
 obtain⟨r,h1,h2⟩:=nt x0 (fun r=>r=grpF x0) (by
  have:=loop (J:=fun r=>r=grpF x0) hn rfl x0 0 [] rfl (by intro a;simp[mget,fsts])
  simpa[fsts]using this)
 rw[<-h1];exact h2
end q19_
section
variable{O U:Type}[DecidableEq O][DecidableEq U]
structure Alike(l:List O)(m:List U):Prop where
 len:l.length=m.length
 iff:∀i j:Nat,i<l.length->j<l.length->(l[i]?=l[j]?↔m[i]?=m[j]?)
def Bfb{l:List O}{m:List U}(h:Alike l m){k:Nat}{a:O}{b:U}(ha:l[k]?=some a)(hb:m[k]?=some b):cls l a=cls m b:=by
 unfold cls;rw[h.len];congr 1;refine yH fun i hi=>?_;have hk:=(zO.1 ha).1;have:=h.iff i k (by rw[h.len];simpa using hi) hk;rw[ha,hb]at this;rw[decide_eq_decide];exact this
def Al7{l:List O}{k:Nat}{a:O}:a∈l.take k↔∃j,j<k/\l[j]?=some a:=by
 rw[yA];constructor
 .rintro ⟨j,hj⟩;rw[List.getElem?_take]at hj
  split at hj
  .rename_i h;exact⟨j,h,hj⟩
  .cases hj
 .rintro ⟨j,h1,h2⟩;exact⟨j,by rw[List.getElem?_take_of_lt h1];exact h2⟩
def Afr{l:List O}{k:Nat}{a:O}(h:l[k]?=some a):l.take (k+1)=l.take k++[a]:=by rw[zL,h];rfl
def Axi{l:List O}{m:List U}(h:Alike l m):∀k,k<=l.length->(fsts (l.take k)).map (cls l)=(fsts (m.take k)).map (cls m)
 |0,_=>by simp[fsts]
 |k+1,hk=>by
  have ih:=Axi h k (by omega);have hl:=zS (l:=l) (i:=k) (by omega);have hm:=zS (l:=m) (i:=k) (by rw[<-h.len];omega);rw[Afr hl,Afr hm,Ado,Ado];have e:l[k]∈fsts (l.take k)↔m[k]'(by rw[<-h.len];omega)∈fsts (m.take k):=by
   rw[Aj2,Aj2,Al7,Al7];constructor
   .rintro ⟨j,h1,h2⟩;refine⟨j,h1,?_⟩;rw[<-hm,<-h.iff j k (by omega) (by omega),h2,hl]
   .rintro ⟨j,h1,h2⟩;refine⟨j,h1,?_⟩;rw[<-hl,h.iff j k (by omega) (by omega),h2,hm]
  by_cases hin:l[k]∈fsts (l.take k)
  .rw [if_pos hin,if_pos (e.1 hin)];exact ih
  .rw [if_neg hin,if_neg (fun hh=>hin (e.2 hh)),zN,zN,ih];simp only[List.map_cons,List.map_nil,Bfb h hl hm]
def Bdq{l:List O}{m:List U}(h:Alike l m):grpF l=grpF m:=by
 have:=Axi h l.length (yI _);rw[zX,h.len,zX]at this;unfold grpF;rw[this]
def Ati{l:List O}{a:O}:(cls l a).Pairwise (·<·):=by
 unfold cls;rw[yG];refine List.Pairwise.imp ?_ (List.pairwise_lt_range.filter _);intro i j h;omega
def Bjv{c:List Int}(h:c.Pairwise (·<·)){i:Int}(hi:i∈c):c.headD 0<=i:=by
 match c,h,hi with
 |a::t,h,hi=>
  simp only[List.headD_cons];rcases zC.1 hi with rfl|hi
  .omega
  .have:=(zA.1 h).1 i hi;omega
def Bhx{c:List Int}(h:c≠[]):c.headD 0∈c:=by
 match c,h with
 |a::t,_=>simp
def Bm3{l:List O}{a:O}(h:a∈l):cls l a≠[]:=by
 obtain⟨k,hk⟩:=yA.1 h;intro hn;have:((k:Nat):Int)∈cls l a:=Afu.2 (by rw[Ac6];exact hk);rw[hn]at this;cases this
def Ax4{l:List O}:∀k,k<=l.length->((fsts (l.take k)).map (cls l)).Pairwise (fun c d=>c.headD 0<d.headD 0/\∀i∈c,i ∉ d)/\∀a∈fsts (l.take k),(cls l a).headD 0<(k:Int)
 |0,_=>by simp[fsts]
 |k+1,hk=>by
  obtain⟨i1,i2⟩:=Ax4 (l:=l) k (by omega);obtain⟨x,hl⟩:∃x,l[k]?=some x:=⟨_,zS (by omega)⟩
  rw[Afr hl,Ado]
  split
  .exact ⟨i1,fun a ha=>by have:=i2 a ha;omega⟩
  .rename_i hin;have hne:=Bm3 (zB hl);have hkm:((k:Nat):Int)∈cls l x:=Afu.2 (by rw[Ac6];exact hl);have hhead:(cls l x).headD 0=(k:Int):=by
    have h1:=Bjv Ati hkm;have h2:=Afu.1 (Bhx hne);obtain⟨h3,h4⟩:=Ac0 h2;rcases Int.lt_or_le ((cls l x).headD 0) (k:Int)with h5|h5
    .exfalso;apply hin;rw[Aj2,Al7];exact⟨_,by omega,h4⟩
    .omega
   refine⟨?_,?_⟩
   .rw [zN,List.pairwise_append];refine⟨i1,by simp,fun c hc d hd=>?_⟩;simp only[List.map_cons,List.map_nil,zQ]at hd;subst hd;obtain⟨b,hb,rfl⟩:=yE.1 hc;refine⟨by rw[hhead];exact i2 b hb,fun i hi hi2=>?_⟩;have e:=(Afu.1 hi).symm.trans (Afu.1 hi2);rw[zE e]at hb;exact hin hb
   .intro a ha;rcases zM.1 ha with ha|ha
    .have:=i2 a ha;omega
    .simp only[zQ]at ha;subst ha;rw[hhead];omega
def part(l:List O):api_Partition:=⟨l.length,grpF l⟩
def Al6{l:List O}{c:List Int}:c∈grpF l↔∃a∈l,c=cls l a/\2<=c.length:=by
 unfold grpF;simp only[yL,yE,decide_eq_true_eq];constructor
 .rintro ⟨⟨a,h1,rfl⟩,h2⟩;exact⟨a,Aj2.1 h1,rfl,h2⟩
 .rintro ⟨a,h1,rfl,h2⟩;exact⟨⟨a,Aj2.2 h1,rfl⟩,h2⟩
def Bli{l:List O}:CP (l.length:Int) (grpF l):=by
 have hp:=(Ax4 (l:=l) l.length (yI _)).1;rw[zX]at hp;have hp':(grpF l).Pairwise (fun c d=>c.headD 0<d.headD 0/\∀i∈c,i ∉ d):=hp.filter _;refine⟨fun c hc=>?_,fun c hc=>?_,fun c hc i hi=>?_,hp'.imp fun h=>h.1,hp'.imp fun h=>h.2⟩
 .obtain ⟨a,_,_,h⟩:=Al6.1 hc;exact h
 .obtain ⟨a,_,rfl,_⟩:=Al6.1 hc;exact Ati
 .obtain ⟨a,_,rfl,_⟩:=Al6.1 hc;obtain⟨h1,h2⟩:=Ac0 (Afu.1 hi);have:=(zO.1 h2).1;omega
def Aof{l:List O}(h:l.length<=1000):Ad8 (part l)=true:=Agj.2 ⟨by simp[part],by simp only[part];omega,Bli⟩
def Bga{l:List O}{i j:Int}(hi:0<=i/\i<l.length)(hj:0<=j/\j<l.length):Same (part l) i j↔lget l i=lget l j:=by
 constructor
 .rintro (rfl|⟨c,hc,h1,h2⟩)
  .rfl
  .obtain ⟨a,_,rfl,_⟩:=Al6.1 hc;rw[Afu.1 h1,Afu.1 h2]
 .intro h;by_cases hij:i=j
  .exact .inl hij
  .obtain ⟨a,ha⟩:=Agu (l:=l) hi.1 hi.2;have h1:i∈cls l a:=Afu.2 ha;have h2:j∈cls l a:=Afu.2 (h ▸ ha);refine .inr ⟨cls l a,Al6.2 ⟨a,?_,rfl,?_⟩,h1,h2⟩
   .exact zB (Ac0 ha).2
   .match hc:cls l a,h1,h2 with
    |[x],h1,h2=>simp at h1 h2;exact absurd (h1.trans h2.symm) hij
    |_::_::_,_,_=>simp
def Be6{l:List O}(h:l.length<=1000):Ajc (part l):=by
 obtain⟨h1,h2⟩:=Bp4 (Aof h);exact⟨by unfold Big;omega,fun c hc=>by have:=h2 c hc;unfold Big;omega⟩
end
def Bgv{O U:Type}[DecidableEq O][DecidableEq U]{l:List O}{m:List U}(hl:l.length=m.length)(h:∀i j:Nat,i<l.length->j<l.length->(l[i]?=l[j]?↔m[i]?=m[j]?)):part l=part m:=by
 unfold part;rw[Bdq (l:=l) (m:=m) ⟨hl,h⟩,hl]
section
variable{O:Type}[DecidableEq O]
end
end Go.Own
namespace Go.Own
open Go.Proofs D
set_option maxRecDepth 100000
set_option maxHeartbeats 4000000
namespace q101_
def B:=bd Tryz.f89
def W:=[0,1,2,4,5,6,7,8,9,11,12,13,21,22,23,24,28,29,30,31]
def res(r:api_Partition):D×List D:=(.agg [iL r.Rows,.sl (r.Classes.map (eSl (eI .i64)))],[])
def C(x0:api_Table)(x1:Int)(r:api_Partition):Prop:=Ret env 89 [.agg [tL x0.Name,.sl (x0.Attrs.map eS),.sl (x0.Rows.map Aa2)],uL x1] (res r).1 (res r).2
def L1(x0:api_Table)(r1:List Int)(z0:List ByteArray)(z1:Int)(J:api_Partition->Prop):Prop:=Pt env 89 W B [1,1,1,0,1,0] [(0,.agg [tL x0.Name,.sl (x0.Attrs.map eS),.sl (x0.Rows.map Aa2)]),(2,.box [tL x0.Name,.sl (x0.Attrs.map eS),.sl (x0.Rows.map Aa2)]),(4,.box [iL 0,.own []]),(5,.own (r1.map (eI .i64))),(6,.own (z0.map eS)),(21,.sl (x0.Rows.map Aa2)),(22,iL (x0.Rows.length:Int)),(23,iL z1)] (Lv env 89 Tryz.f89 2 res J)
def L2(x0:api_Table)(r1:List Int)(z0:List ByteArray)(z1:Int)(a3:api_Row)(z2:List UInt8)(z3 z4:Int)(J:api_Partition->Prop):Prop:=Pt env 89 W B [1,1,1,0,1,0,0,1,1,0,0,1,1,0,1,0] [(0,.agg [tL x0.Name,.sl (x0.Attrs.map eS),.sl (x0.Rows.map Aa2)]),(2,.box [tL x0.Name,.sl (x0.Attrs.map eS),.sl (x0.Rows.map Aa2)]),(4,.box [iL 0,.own []]),(5,.own (r1.map (eI .i64))),(6,.own (z0.map eS)),(7,iL z1),(8,.box [iL a3.ID,.sl (a3.Values.map Aa1)]),(9,.bld 159 5 z2),(21,.sl (x0.Rows.map Aa2)),(22,iL (x0.Rows.length:Int)),(23,iL z3),(28,.alias 5 []),(29,iL (r1.length:Int)),(30,iL z4)] (Lv env 89 Tryz.f89 2 res J)
def K1(x0:api_Table)(r1:List Int)(z0:List ByteArray)(z1:Int)(J:api_Partition->Prop)(h:(if z1<(x0.Rows.length:Int)then ∃a3,lget x0.Rows z1=some a3/\L2 x0 r1 z0 z1 a3 ([]) z1 0 J else ∃r5:List (List Int),q19_.C z0 r5/\J (⟨(x0.Rows.length:Int),r5⟩:api_Partition))):L1 x0 r1 z0 z1 J:=mIn<|mAsk 2 h dT dF (fun h=>mIx 5 Aa2 h fun a3 h4 h=>mLen 10 (eI .i64) r1<|mFin 2 h) fun h=>mXit 2 [(0,.agg [tL x0.Name,.sl (x0.Attrs.map eS),.sl (x0.Rows.map Aa2)]),(2,.box [tL x0.Name,.sl (x0.Attrs.map eS),.sl (x0.Rows.map Aa2)]),(4,.box [iL 0,.own []]),(6,.sl (z0.map eS))] (Bc5 (F0:=[(0,.agg [tL x0.Name,.sl (x0.Attrs.map eS),.sl (x0.Rows.map Aa2)]),(2,.box [tL x0.Name,.sl (x0.Attrs.map eS),.sl (x0.Rows.map Aa2)]),(4,.box [iL 0,.own []]),(6,.own (z0.map eS))]) (l:=z0) (e:=eS) (e':=eS) (s:=6) (by kernel_rfl) (by kernel_rfl) (by kernel_rfl) (fun _=>rfl) (by kernel_rfl) (by kernel_rfl))<|mLen 3 Aa2 x0.Rows<|mLo 1 h (fun _ h=>h) (hf:=(fun _=>Avv)) fun r5 _ h=>mRet 3 h
def K2(x0:api_Table)(r1:List Int)(z0:List ByteArray)(z1:Int)(a3:api_Row)(z2:List UInt8)(z3 z4:Int)(J:api_Partition->Prop)(h:(if z4<(r1.length:Int)then ∃a6,lget r1 z4=some a6/\∃a8,lget a3.Values a6=some a8/\∃r10:ByteArray×Int,q116_.C a8 r10/\z2.length+r10.1.size<=140737488355328/\L2 x0 r1 z0 z1 a3 (z2++r10.1.data.toList) z3 (IntKind.wrap .i64 (z4+1)) J else ∃a12,lget z0 z1=some a12/\L1 x0 r1 (lset z0 z1 (bstr z2)) (IntKind.wrap .i64 (z3+1)) J)):L2 x0 r1 z0 z1 a3 z2 z3 z4 J:=mIn<|mAsk 2 h dT dF (fun h=>mIy 4 (eI .i64) h fun a6 h7 h=>mLd 0 (eI .i64) h7<|mIx 6 Aa1 h fun a8 h9 h=>mCal 1 h (fun _ h=>h) (hf:=(fun _=>Aak (Abq (Aa6 rfl (Aa6 rfl Aan))) rfl)) fun r10 _ h=>h.elim fun h11 h=>Aoa 8 (show Ret env 117 [.bld 159 5 z2,tL r10.1] (.tup [iL (Ads r10.1),.lit .nilIface]) [.bld 159 5 (z2++r10.1.data.toList)]from Bgg (by kernel_rfl) h11) (hf:=(Ahn))<|mFin 5 h) fun h=>Aoa 6 (show Ret env 118 [.bld 159 5 z2] (tL (bstr z2)) [.box [.undef,.undef]]from Bed (by kernel_rfl))<|mIy 0 eS h fun a12 h13 h=>mSto 0 eS (bstr z2) h13<|mFin 5 h
def nt(x0:api_Table)(x1:Int)(J:api_Partition->Prop)(h:∃r1:List Int,q69_.C x1 r1/\(0<=(x0.Rows.length:Int)/\(x0.Rows.length:Int)*16<=281474976710656)/\L1 x0 r1 (zD x0.Rows.length (⟨#[]⟩:ByteArray)) 0 J):∃r,J r/\C x0 x1 r:=mE Tryz.f89 B W res<|mCal 6 h (fun _ h=>h) (hf:=(fun _=>Aak (Aaj (e:=(eI .i64)) (fun _=>rfl)) rfl)) fun r1 _ h=>mLen 5 Aa2 x0.Rows<|h.elim fun h2 h=>mVl 0 (At3 (t:=37) (x:=(.tmp 18)) (y:=(.tmp 18)) (q:=.i64) (i:=(x0.Rows.length:Int)) (et:=9) (z:=tL (⟨#[]⟩:ByteArray)) (e:=eS) (a:=(⟨#[]⟩:ByteArray)) (k:=16) (by kernel_rfl) (by kernel_rfl) (by kernel_rfl) (by kernel_rfl) (by kernel_rfl) (by kernel_rfl) (by kernel_rfl) (by kernel_rfl) (by kernel_rfl) (by kernel_rfl) h2.1 h2.2)<|mLen 5 Aa2 x0.Rows<|mFin 2 h
end q101_
namespace q58_
def B:=bd Tryz.f87
def W:=[0,1,2,4]
def res(r:Bool):D×List D:=(bL r,[])
def C(x0:api_Table)(x1:Int)(r:Bool):Prop:=Ret env 87 [.agg [tL x0.Name,.sl (x0.Attrs.map eS),.sl (x0.Rows.map Aa2)],uL x1] (res r).1 (res r).2
def nt(x0:api_Table)(x1:Int)(J:Bool->Prop)(h:0<=(x0.Attrs.length:Int)/\J ((shrw .u64 (IntKind.wrap .u64 x1) (x0.Attrs.length:Int))==0)):∃r,J r/\C x0 x1 r:=mE Tryz.f87 B W res<|mLen 9 eS x0.Attrs<|h.elim fun h1 h=>mBi 0 (Ahs (t:=143) (q:=.u64) (q':=.i64) (i1:=(IntKind.wrap .u64 x1)) h1)<|mRet 3 h
end q58_
namespace q20_
def B:=bd Tryz.f121
def W:=[0,2]
def res(r:Int):D×List D:=(iL r,[])
def C(x0 r:Int):Prop:=Ret env 121 [uL x0] (res r).1 (res r).2
def nt(x0:Int)(J:Int->Prop)(h:∃b1,((0:Int)<=(shrw .u32 x0 24)/\(⟨#[0,1,1,2,1,2,2,3,1,2,2,3,2,3,3,4,1,2,2,3,2,3,3,4,2,3,3,4,3,4,4,5,1,2,2,3,2,3,3,4,2,3,3,4,3,4,4,5,2,3,3,4,3,4,4,5,3,4,4,5,4,5,5,6,1,2,2,3,2,3,3,4,2,3,3,4,3,4,4,5,2,3,3,4,3,4,4,5,3,4,4,5,4,5,5,6,2,3,3,4,3,4,4,5,3,4,4,5,4,5,5,6,3,4,4,5,4,5,5,6,4,5,5,6,5,6,6,7,1,2,2,3,2,3,3,4,2,3,3,4,3,4,4,5,2,3,3,4,3,4,4,5,3,4,4,5,4,5,5,6,2,3,3,4,3,4,4,5,3,4,4,5,4,5,5,6,3,4,4,5,4,5,5,6,4,5,5,6,5,6,6,7,2,3,3,4,3,4,4,5,3,4,4,5,4,5,5,6,3,4,4,5,4,5,5,6,4,5,5,6,5,6,6,7,3,4,4,5,4,5,5,6,4,5,5,6,5,6,6,7,4,5,5,6,5,6,6,7,5,6,6,7,6,7,7,8]⟩:ByteArray)[(shrw .u32 x0 24).toNat]?=some b1)/\∃b4,((0:Int)<=(bAnd .u32 (shrw .u32 x0 16) 255)/\(⟨#[0,1,1,2,1,2,2,3,1,2,2,3,2,3,3,4,1,2,2,3,2,3,3,4,2,3,3,4,3,4,4,5,1,2,2,3,2,3,3,4,2,3,3,4,3,4,4,5,2,3,3,4,3,4,4,5,3,4,4,5,4,5,5,6,1,2,2,3,2,3,3,4,2,3,3,4,3,4,4,5,2,3,3,4,3,4,4,5,3,4,4,5,4,5,5,6,2,3,3,4,3,4,4,5,3,4,4,5,4,5,5,6,3,4,4,5,4,5,5,6,4,5,5,6,5,6,6,7,1,2,2,3,2,3,3,4,2,3,3,4,3,4,4,5,2,3,3,4,3,4,4,5,3,4,4,5,4,5,5,6,2,3,3,4,3,4,4,5,3,4,4,5,4,5,5,6,3,4,4,5,4,5,5,6,4,5,5,6,5,6,6,7,2,3,3,4,3,4,4,5,3,4,4,5,4,5,5,6,3,4,4,5,4,5,5,6,4,5,5,6,5,6,6,7,3,4,4,5,4,5,5,6,4,5,5,6,5,6,6,7,4,5,5,6,5,6,6,7,5,6,6,7,6,7,7,8]⟩:ByteArray)[(bAnd .u32 (shrw .u32 x0 16) 255).toNat]?=some b4)/\∃b7,((0:Int)<=(bAnd .u32 (shrw .u32 x0 8) 255)/\(⟨#[0,1,1,2,1,2,2,3,1,2,2,3,2,3,3,4,1,2,2,3,2,3,3,4,2,3,3,4,3,4,4,5,1,2,2,3,2,3,3,4,2,3,3,4,3,4,4,5,2,3,3,4,3,4,4,5,3,4,4,5,4,5,5,6,1,2,2,3,2,3,3,4,2,3,3,4,3,4,4,5,2,3,3,4,3,4,4,5,3,4,4,5,4,5,5,6,2,3,3,4,3,4,4,5,3,4,4,5,4,5,5,6,3,4,4,5,4,5,5,6,4,5,5,6,5,6,6,7,1,2,2,3,2,3,3,4,2,3,3,4,3,4,4,5,2,3,3,4,3,4,4,5,3,4,4,5,4,5,5,6,2,3,3,4,3,4,4,5,3,4,4,5,4,5,5,6,3,4,4,5,4,5,5,6,4,5,5,6,5,6,6,7,2,3,3,4,3,4,4,5,3,4,4,5,4,5,5,6,3,4,4,5,4,5,5,6,4,5,5,6,5,6,6,7,3,4,4,5,4,5,5,6,4,5,5,6,5,6,6,7,4,5,5,6,5,6,6,7,5,6,6,7,6,7,7,8]⟩:ByteArray)[(bAnd .u32 (shrw .u32 x0 8) 255).toNat]?=some b7) /\
 ∃b10,((0:Int)<=(bAnd .u32 x0 255)/\(⟨#[0,1,1,2,1,2,2,3,1,2,2,3,2,3,3,4,1,2,2,3,2,3,3,4,2,3,3,4,3,4,4,5,1,2,2,3,2,3,3,4,2,3,3,4,3,4,4,5,2,3,3,4,3,4,4,5,3,4,4,5,4,5,5,6,1,2,2,3,2,3,3,4,2,3,3,4,3,4,4,5,2,3,3,4,3,4,4,5,3,4,4,5,4,5,5,6,2,3,3,4,3,4,4,5,3,4,4,5,4,5,5,6,3,4,4,5,4,5,5,6,4,5,5,6,5,6,6,7,1,2,2,3,2,3,3,4,2,3,3,4,3,4,4,5,2,3,3,4,3,4,4,5,3,4,4,5,4,5,5,6,2,3,3,4,3,4,4,5,3,4,4,5,4,5,5,6,3,4,4,5,4,5,5,6,4,5,5,6,5,6,6,7,2,3,3,4,3,4,4,5,3,4,4,5,4,5,5,6,3,4,4,5,4,5,5,6,4,5,5,6,5,6,6,7,3,4,4,5,4,5,5,6,4,5,5,6,5,6,6,7,4,5,5,6,5,6,6,7,5,6,6,7,6,7,7,8]⟩:ByteArray)[(bAnd .u32 x0 255).toNat]?=some b10)/\J (IntKind.wrap .i64 (IntKind.wrap .u8 ((IntKind.wrap .u8 ((IntKind.wrap .u8 ((u8i b1)+(u8i b4)))+(u8i b7)))+(u8i b10))))):∃r,J r/\C x0 r:=mE Tryz.f121 B W res<|mSt 6 h fun b1 h=>mSt 3 h fun b4 h=>mSt 4 h fun b7 h=>mSt 3 h fun b10 h=>mRet 4 h
end q20_
namespace q102_
def B:=bd Tryz.f93
def W:=[0,2]
def res(r:Int):D×List D:=(iL r,[])
def C(x0 r:Int):Prop:=Ret env 93 [uL x0] (res r).1 (res r).2
def nt(x0:Int)(J:Int->Prop)(h:∃r1:Int,q20_.C x0 r1/\J r1):∃r,J r/\C x0 r:=mE Tryz.f93 B W res<|mCal 5 h (fun _ h=>h) fun r1 _ h=>mRet 2 h
end q102_
namespace q43_
def B:=bd Tryz.f160
def W:=[0,2]
def res(r:Bool):D×List D:=(bL r,[])
def C(x0:Int)(r:Bool):Prop:=Ret env 160 [uL x0] (res r).1 (res r).2
def nt(x0:Int)(J:Bool->Prop)(h:J (x0 != x0)):∃r,J r/\C x0 r:=mE Tryz.f160 B W res<|mRet 9 h
end q43_
namespace q28_
def B:=bd Tryz.f145
def W:=[0,1,4,5,6,11,12,13,16,19]
def res(r:Int):D×List D:=(iL r,[])
def C(x0 x1 r:Int):Prop:=Ret env 145 [uL x0,uL x1] (res r).1 (res r).2
def nt(x0 x1:Int)(J:Int->Prop)(h:∃r1:Bool,q43_.C x0 r1/\∃r2:Bool,q43_.C x1 r2/\(if r1=true then(if r2=true then J 0 else J (-1))else(if r2=true then J 1 else(if x0<x1 then J (-1)else(if x1<x0 then J 1 else J 0))))):∃r,J r/\C x0 x1 r:=mE Tryz.f145 B W res<|mCal 5 h (fun _ h=>h) fun r1 _ h=>mCal 4 h (fun _ h=>h) fun r2 _ h=>mAsk 3 h id fls (fun h=>mAsk 3 h id fls (fun h=>mRet 5 h) fun h=>mRet 6 h) fun h=>mAsk 4 h id fls (fun h=>mRet 5 h) fun h=>mAsk 6 h dT dF (fun h=>mRet 5 h) fun h=>mAsk 6 h dT dF (fun h=>mRet 5 h) fun h=>mRet 6 h
end q28_
namespace q88_
def B:=bd Tryz.f159
def W:=[0,2]
def res(r:Bool):D×List D:=(bL r,[])
def C(x0:Int)(r:Bool):Prop:=Ret env 159 [iL x0] (res r).1 (res r).2
def nt(x0:Int)(J:Bool->Prop)(h:J (x0 != x0)):∃r,J r/\C x0 r:=mE Tryz.f159 B W res<|mRet 9 h
end q88_
namespace q74_
def B:=bd Tryz.f144
def W:=[0,1,4,5,6,11,12,13,16,19]
def res(r:Int):D×List D:=(iL r,[])
def C(x0 x1 r:Int):Prop:=Ret env 144 [iL x0,iL x1] (res r).1 (res r).2
def nt(x0 x1:Int)(J:Int->Prop)(h:∃r1:Bool,q88_.C x0 r1/\∃r2:Bool,q88_.C x1 r2/\(if r1=true then(if r2=true then J 0 else J (-1))else(if r2=true then J 1 else(if x0<x1 then J (-1)else(if x1<x0 then J 1 else J 0))))):∃r,J r/\C x0 x1 r:=mE Tryz.f144 B W res<|mCal 5 h (fun _ h=>h) fun r1 _ h=>mCal 4 h (fun _ h=>h) fun r2 _ h=>mAsk 3 h id fls (fun h=>mAsk 3 h id fls (fun h=>mRet 5 h) fun h=>mRet 6 h) fun h=>mAsk 4 h id fls (fun h=>mRet 5 h) fun h=>mAsk 6 h dT dF (fun h=>mRet 5 h) fun h=>mAsk 6 h dT dF (fun h=>mRet 5 h) fun h=>mRet 6 h
end q74_
namespace q114_
def B:=bd Tryz.f143
def W:=[0,2,3,5,6,7,8,9,14]
def res(r:Int):D×List D:=(iL r,[])
def C(x0:List Int)(r:Int):Prop:=Ret env 143 [.sl (x0.map (eI .i64))] (res r).1 (res r).2
def L1(x0:List Int)(z0:Int)(J:Int->Prop):Prop:=Pt env 143 W B [1,1,0,1,0] [(0,.sl (x0.map (eI .i64))),(3,iL 0),(6,.sl (x0.map (eI .i64))),(7,iL (x0.length:Int)),(8,iL z0)] (Lv env 143 Tryz.f143 1 res J)
def K1(x0:List Int)(z0:Int)(J:Int->Prop)(h:(if z0<(x0.length:Int)then ∃a1,lget x0 z0=some a1/\(if a1=0 then L1 x0 (IntKind.wrap .i64 (z0+1)) J else J a1)else J 0)):L1 x0 z0 J:=mIn<|mAsk 2 h dT dF (fun h=>mIx 4 (eI .i64) h fun a1 h2 h=>Abr 6 h Abm Abl (fun h=>mRet 6 h) fun h=>mFin 7 h) fun h=>mRet 7 h
def nt(x0:List Int)(J:Int->Prop)(h:L1 x0 0 J):∃r,J r/\C x0 r:=mE Tryz.f143 B W res<|mLen 8 (eI .i64) x0<|mFin 2 h
end q114_
namespace q75_
def B:=bd Tryz.f123
def W:=[0,1,4]
def res(r:Int):D×List D:=(iL r,[])
def C(x0 x1 r:Int):Prop:=Ret env 123 [uL x0,uL x1] (res r).1 (res r).2
def nt(x0 x1:Int)(J:Int->Prop)(h:∃r1:Int,q102_.C x0 r1/\∃r2:Int,q102_.C x1 r2/\∃r3:Int,q74_.C r1 r2 r3/\∃r4:Int,q28_.C x0 x1 r4/\∃r5:Int,q114_.C ([r3,r4]) r5/\J r5):∃r,J r/\C x0 x1 r:=mE Tryz.f123 B W res<|mCal 5 h (fun _ h=>h) fun r1 _ h=>mCal 1 h (fun _ h=>h) fun r2 _ h=>mCal 0 h (fun _ h=>h) fun r3 _ h=>mCal 2 h (fun _ h=>h) fun r4 _ h=>mCal 1 h (fun _ h=>h) (hr:=by exact(Abs (Aba (s:=13) (ps:=[]) (l:=[r3,r4]) (e:=(eI .i64)) (e':=(eI .i64)) (fun _=>rfl) (by kernel_rfl)) Ad2)) fun r5 _ h=>mRet 2 h
end q75_
namespace q4_
def B:=bd Tryz.f149
def W:=[0,1,2,3,8,9,14,34,1000000]
def res(r:List Int):D×List D:=(.tup [],[.own (r.map (eI .u32))])
def C(x1 x2:Int)(k0_0 r:List Int):Prop:=Ret env 149 [.own (k0_0.map (eI .u32)),iL x1,iL x2,.fn 123 []] (res r).1 (res r).2
def L1(x1 x2 z0:Int)(k0_0:List Int)(J:List Int->Prop):Prop:=Pt env 149 W B [1,0] [(0,.alias 1000000 []),(1,iL x1),(2,iL x2),(3,.fn 123 []),(8,iL z0),(1000000,.own (k0_0.map (eI .u32)))] (Lv env 149 Tryz.f149 4 res J)
def L2(x1 x2:Int)(z0 z1:Int)(k0_0:List Int)(J:List Int->Prop):Prop:=Pt env 149 W B [1,0,0,1,0,0,1,0] [(0,.alias 1000000 []),(1,iL x1),(2,iL x2),(3,.fn 123 []),(8,iL z0),(9,iL z1),(1000000,.own (k0_0.map (eI .u32)))] (Lv env 149 Tryz.f149 4 res J)
def L3(x1 x2 z0:Int)(k0_0:List Int)(J:List Int->Prop):Prop:=Pt env 149 W B [1,0,0,1,1] [(0,.alias 1000000 []),(1,iL x1),(2,iL x2),(3,.fn 123 []),(8,iL z0),(1000000,.own (k0_0.map (eI .u32)))] (Lv env 149 Tryz.f149 4 res J)
def K1(x1 x2 z0:Int)(k0_0:List Int)(J:List Int->Prop)(h:(if z0<x2 then L2 x1 x2 z0 z0 k0_0 J else J k0_0)):L1 x1 x2 z0 k0_0 J:=mIn<|mAsk 4 h dT dF (fun h=>mFin 7 h) fun h=>mRet 2 h
def K2(x1 x2:Int)(z0 z1:Int)(k0_0:List Int)(J:List Int->Prop)(h:(if x1<z1 then ∃a1,lget k0_0 z1=some a1/\∃a3,lget k0_0 (IntKind.wrap .i64 (z1-1))=some a3/\∃r5:Int,q75_.C a1 a3 r5/\(if r5<0 then ∃a6,lget (lset k0_0 z1 a3) (IntKind.wrap .i64 (z1-1))=some a6/\L2 x1 x2 z0 (IntKind.wrap .i64 (z1-1)) (lset (lset k0_0 z1 a3) (IntKind.wrap .i64 (z1-1)) a1) J else L3 x1 x2 z0 k0_0 J)else L3 x1 x2 z0 k0_0 J)):L2 x1 x2 z0 z1 k0_0 J:=mIn<|mAsk 4 h dT dF (fun h=>mIy 4 (eI .u32) h fun a1 h2 h=>mLd 0 (eI .u32) h2<|mIy 3 (eI .u32) h fun a3 h4 h=>mLd 0 (eI .u32) h4<|mCal 0 h (fun _ h=>h) fun r5 _ h=>mAsk 0 h dT dF (fun h=>mIyf 13 (eI .u32) h4<|mLd 0 (eI .u32) h4<|mIyf 2 (eI .u32) h2<|mLd 0 (eI .u32) h2<|mIyf 0 (eI .u32) h2<|Boy 0 (eI .u32) a3 h2<|mIy 0 (eI .u32) h fun a6 h7 h=>mSto 0 (eI .u32) a1 h7<|mFin 6 h) fun h=>mFin 4 h) fun h=>mFin 17 h
def K3(x1 x2 z0:Int)(k0_0:List Int)(J:List Int->Prop)(h:L1 x1 x2 (IntKind.wrap .i64 (z0+1)) k0_0 J):L3 x1 x2 z0 k0_0 J:=mIn<|mFin 5 h
def nt(x1 x2:Int)(k0_0:List Int)(J:List Int->Prop)(h:L1 x1 x2 (IntKind.wrap .i64 (x1+1)) k0_0 J):∃r,J r/\C x1 x2 k0_0 r:=mE Tryz.f149 B W res<|mFin 5 h
end q4_
namespace q76_
def B:=bd Tryz.f158
def W:=[0,2,4,8,14]
def res(r:Int):D×List D:=(iL r,[])
def C(x0 r:Int):Prop:=Ret env 158 [.lit (.int .u64 x0)] (res r).1 (res r).2
def L3(z0 z1:Int)(J:Int->Prop):Prop:=Pt env 158 W B [1,1,0,0] [(0,.lit (.int .u64 z0)),(2,iL z1)] (Lv env 158 Tryz.f158 1 res J)
def L2(z0 z1:Int)(J:Int->Prop):Prop:=Pt env 158 W B [1,1,1,0,0] [(0,.lit (.int .u64 z0)),(2,iL z1)] (Lv env 158 Tryz.f158 1 res J)
def L1(z0 z1:Int)(J:Int->Prop):Prop:=Pt env 158 W B [1,1,1,1,0] [(0,.lit (.int .u64 z0)),(2,iL z1)] (Lv env 158 Tryz.f158 1 res J)
def K3(z0 z1:Int)(J:Int->Prop)(h:(if 65536<=z0 then L2 (shrw .u64 z0 16) (IntKind.wrap .i64 (z1+16)) J else L2 z0 z1 J)):L3 z0 z1 J:=mIn<|mAsk 2 h dT dF (fun h=>mFin 12 h) fun h=>mFin 3 h
def K2(z0 z1:Int)(J:Int->Prop)(h:(if 256<=z0 then L1 (shrw .u64 z0 8) (IntKind.wrap .i64 (z1+8)) J else L1 z0 z1 J)):L2 z0 z1 J:=mIn<|mAsk 2 h dT dF (fun h=>mFin 12 h) fun h=>mFin 3 h
def K1(z0 z1:Int)(J:Int->Prop)(h:∃b1,((0:Int)<=(IntKind.wrap .u8 z0)/\(⟨#[0,1,2,2,3,3,3,3,4,4,4,4,4,4,4,4,5,5,5,5,5,5,5,5,5,5,5,5,5,5,5,5,6,6,6,6,6,6,6,6,6,6,6,6,6,6,6,6,6,6,6,6,6,6,6,6,6,6,6,6,6,6,6,6,7,7,7,7,7,7,7,7,7,7,7,7,7,7,7,7,7,7,7,7,7,7,7,7,7,7,7,7,7,7,7,7,7,7,7,7,7,7,7,7,7,7,7,7,7,7,7,7,7,7,7,7,7,7,7,7,7,7,7,7,7,7,7,7,8,8,8,8,8,8,8,8,8,8,8,8,8,8,8,8,8,8,8,8,8,8,8,8,8,8,8,8,8,8,8,8,8,8,8,8,8,8,8,8,8,8,8,8,8,8,8,8,8,8,8,8,8,8,8,8,8,8,8,8,8,8,8,8,8,8,8,8,8,8,8,8,8,8,8,8,8,8,8,8,8,8,8,8,8,8,8,8,8,8,8,8,8,8,8,8,8,8,8,8,8,8,8,8,8,8,8,8,8,8,8,8,8,8,8,8,8,8,8,8,8,8,8,8,8,8,8,8]⟩:ByteArray)[(IntKind.wrap .u8 z0).toNat]?=some b1)/\J (IntKind.wrap .i64 (z1+(IntKind.wrap .i64 (u8i b1))))):L1 z0 z1 J:=mIn<|mSt 4 h fun b1 h=>mRet 4 h
def nt(x0:Int)(J:Int->Prop)(h:(if 4294967296<=x0 then L3 (shrw .u64 x0 32) 32 J else L3 x0 0 J)):∃r,J r/\C x0 r:=mE Tryz.f158 B W res<|mAsk 5 h dT dF (fun h=>mFin 10 h) fun h=>mFin 3 h
end q76_
namespace q89_
def B:=bd Tryz.f142
def W:=[0,2]
def res(r:Int):D×List D:=(iL r,[])
def C(x0 r:Int):Prop:=Ret env 142 [.lit (.int .u64 x0)] (res r).1 (res r).2
def nt(x0:Int)(J:Int->Prop)(h:∃r1:Int,q76_.C x0 r1/\J r1):∃r,J r/\C x0 r:=mE Tryz.f142 B W res<|mCal 7 h (fun _ h=>h) fun r1 _ h=>mRet 2 h
end q89_
namespace q11_
def B:=bd Tryz.f141
def W:=[0,1,2,3,4,10,11,12,13,14,15,16,17,18,19,20,25,32,39,56,75,80,97,125,1000000]
def res(r:List Int):D×List D:=(.tup [],[.own (r.map (eI .u32))])
def C(x1 x2 x3:Int)(k0_0 r:List Int):Prop:=Ret env 141 [.own (k0_0.map (eI .u32)),iL x1,iL x2,iL x3,.fn 123 []] (res r).1 (res r).2
def L1(x1 x2 x3:Int)(k0_0:List Int)(J:List Int->Prop):Prop:=Pt env 141 W B [1,1,0] [(0,.alias 1000000 []),(1,iL x1),(2,iL x2),(3,iL x3),(4,.fn 123 []),(10,bL true),(11,bL true),(1000000,.own (k0_0.map (eI .u32)))] (Lv env 141 Tryz.f141 5 res J)
def K1(x1 x2 x3:Int)(k0_0:List Int)(J:List Int->Prop)(h:(if(IntKind.wrap .i64 (x2-x1))<=12 then ∃r1:List Int,q4_.C x1 x2 k0_0 r1/\J r1 else(if x3=0 then False else False))):L1 x1 x2 x3 k0_0 J:=mIn<|mAsk 9 h dT dF (fun h=>mCal 7 h (fun _ h=>h) (hf:=(fun _=>Apf (Abq Aan) (Aaj (e:=(eI .u32)) (fun _=>rfl)))) fun r1 _ h=>mRet 1 h) fun h=>mAsk 5 h Abd Abc (fun h=>h.elim) fun h=>h.elim
def nt(x1 x2 x3:Int)(k0_0:List Int)(J:List Int->Prop)(h:L1 x1 x2 x3 k0_0 J):∃r,J r/\C x1 x2 x3 k0_0 r:=mE Tryz.f141 B W res<|mFin 6 h
end q11_
namespace q7_
def B:=bd Tryz.f122
def W:=[0,1,4,1000000]
def res(r:List Int):D×List D:=(.tup [],[.own (r.map (eI .u32))])
def C(k0_0 r:List Int):Prop:=Ret env 122 [.own (k0_0.map (eI .u32)),.fn 123 []] (res r).1 (res r).2
def nt(k0_0:List Int)(J:List Int->Prop)(h:∃r1:Int,q89_.C (IntKind.wrap .u64 (k0_0.length:Int)) r1/\∃r2:List Int,q11_.C 0 (k0_0.length:Int) r1 k0_0 r2/\J r2):∃r,J r/\C k0_0 r:=mE Tryz.f122 B W res<|mLen 2 (eI .u32) k0_0<|mCal 7 h (fun _ h=>h) fun r1 _ h=>mCal 1 h (fun _ h=>h) (hf:=(fun _=>Apf (Abq Aan) (Aaj (e:=(eI .u32)) (fun _=>rfl)))) fun r2 _ h=>mRet 0 h
end q7_
namespace q14_
def B:=bd Tryz.f124
def W:=[0,2,3,4,5,8,13,25,32,44]
def res(r:(List Int×Bool)):D×List D:=((sown (r.1.map (eI .u32)) r.2),[])
def C(k0_0:List Int)(r:(List Int×Bool)):Prop:=Ret env 124 [.own (k0_0.map (eI .u32))] (res r).1 (res r).2
def L1(k0_0:List Int)(z0:Int)(J:(List Int×Bool)->Prop):Prop:=Pt env 124 W B [1,1,0,1,0] [(0,.own (k0_0.map (eI .u32))),(3,iL z0)] (Lv env 124 Tryz.f124 1 res J)
def L2(k0_0:List Int)(z0:Int)(y4_o_L2 y4_n_L2:Nat)(z1:Int)(J:(List Int×Bool)->Prop):Prop:=Pt env 124 W B [1,1,0,1,0,0,1,0,0,1,0,1,0,1,0] [(0,.own (k0_0.map (eI .u32))),(3,iL z0),(4,.sub 0 [] y4_o_L2 y4_n_L2),(5,iL z1)] (Lv env 124 Tryz.f124 1 res J)
def L3(z0:List Int)(z1:Int)(y4_o_L2 y4_n_L2:Nat)(z2:Int)(J:(List Int×Bool)->Prop):Prop:=Pt env 124 W B [1,1,0,1,0,0,1,0,0,1,0,1,0,1,0,0,1,1] [(0,.own (z0.map (eI .u32))),(3,iL z1),(4,.sub 0 [] y4_o_L2 y4_n_L2),(5,iL z2)] (Lv env 124 Tryz.f124 1 res J)
def K1(k0_0:List Int)(z0:Int)(J:(List Int×Bool)->Prop)(h:(if z0<(k0_0.length:Int)then ∃a1,lget k0_0 z0=some a1/\∃a3,lget k0_0 (IntKind.wrap .i64 (z0-1))=some a3/\(if a1=a3 then 0<=z0/\(z0.toNat<=k0_0.length/\k0_0.length<=k0_0.length)/\L2 k0_0 z0 z0.toNat (k0_0.length-z0.toNat) 1 J else L1 k0_0 (IntKind.wrap .i64 (z0+1)) J)else J (⟨k0_0,true⟩))):L1 k0_0 z0 J:=mIn<|mLen 4 (eI .u32) k0_0<|mAsk 0 h dT dF (fun h=>mIy 6 (eI .u32) h fun a1 h2 h=>mLd 0 (eI .u32) h2<|mIy 3 (eI .u32) h fun a3 h4 h=>mLd 0 (eI .u32) h4<|mAsk 0 h Abd Abc (fun h=>h.elim fun h5 h=>h.elim fun h6 h=>mVl 5 (Alm (s:=0) (ps:=[]) (t:=71) (x:=(.tmp 26)) (lo:=(some (.tmp 27))) (hi:=none) (lo':=some z0.toNat) (hi':=none) (e:=(eI .u32)) (l:=k0_0) (et:=34) (k:=1) (by kernel_rfl) (by kernel_rfl) (Agp (by kernel_rfl)) (Aeo (i:=z0) (q:=.i64) (by kernel_rfl) h5) Afv (by kernel_rfl) (by kernel_rfl) (fun _=>rfl) (by kernel_rfl) h6.1 h6.2)<|mFin 5 h) fun h=>mFin 8 h) fun h=>mRet 7 h
def K2(k0_0:List Int)(z0:Int)(y4_o_L2 y4_n_L2:Nat)(z1:Int)(J:(List Int×Bool)->Prop)(h:y4_o_L2+y4_n_L2<=k0_0.length/\(if z1<((zH y4_n_L2 (List.drop y4_o_L2 k0_0)).length:Int)then ∃a10,lget k0_0 ((y4_o_L2:Int)+z1)=some a10/\(0<=z1/\z1<((y4_n_L2:Nat):Int))/\y4_o_L2+y4_n_L2<=k0_0.length/\∃a14,lget k0_0 ((y4_o_L2:Int)+(IntKind.wrap .i64 (z1-1)))=some a14/\(0<=(IntKind.wrap .i64 (z1-1))/\(IntKind.wrap .i64 (z1-1))<((y4_n_L2:Nat):Int))/\y4_o_L2+y4_n_L2<=k0_0.length/\(if a10=a14 then L3 k0_0 z0 y4_o_L2 y4_n_L2 z1 J else(0<=z1/\z1<((y4_n_L2:Nat):Int))/\y4_o_L2+y4_n_L2<=k0_0.length/\∃a18,lget k0_0 z0=some a18/\L3 (lset k0_0 z0 a10) (IntKind.wrap .i64 (z0+1)) y4_o_L2 y4_n_L2 z1 J)else 0<=z0/\(z0.toNat<=k0_0.length/\k0_0.length<=k0_0.length)/\z0.toNat+(k0_0.length-z0.toNat)<=k0_0.length/\0<=z0/\z0.toNat+(k0_0.length-z0.toNat)<=k0_0.length/\z0.toNat<=k0_0.length/\(z0.toNat+(k0_0.length-z0.toNat)<=k0_0.length/\z0.toNat<=k0_0.length/\z0.toNat<=z0.toNat)/\J (⟨(zH z0.toNat k0_0),(!((zH z0.toNat k0_0).isEmpty))⟩))):L2 k0_0 z0 y4_o_L2 y4_n_L2 z1 J:=mIn<|h.elim fun h7 h=>mVl 4 (Bcz (x:=(.tmp 30)) (t:=71) (et:=34) (d:=.sub 0 [] y4_o_L2 y4_n_L2) (e:=(eI .u32)) (l:=(zH y4_n_L2 (List.drop y4_o_L2 k0_0))) (by kernel_rfl) (by kernel_rfl) (Axx (s:=0) (ps:=[]) (l:=k0_0) (e:=(eI .u32)) (by kernel_rfl) h7) (by kernel_rfl))<|mAsk 0 h dT dF (fun h=>h.elim fun a10 h=>h.elim fun h11 h=>h.elim fun h9 h=>h.elim fun h8 h=>mVl 6 (Ak3 (s:=0) (ps:=[]) (off:=y4_o_L2) (len:=y4_n_L2) (t:=71) (x:=(.tmp 35)) (ix:=(.tmp 36)) (et:=34) (k:=1) (e:=(eI .u32)) (l:=k0_0) (i:=z1) (q:=.i64) (a:=a10) (by kernel_rfl) (by kernel_rfl) (by kernel_rfl) (by kernel_rfl) (by kernel_rfl) (by kernel_rfl) h8 h9 h11 (by kernel_rfl)) <|
 mLd 0 (eI .u32) h11<|h.elim fun a14 h=>h.elim fun h15 h=>h.elim fun h13 h=>h.elim fun h12 h=>mVl 3 (Ak3 (s:=0) (ps:=[]) (off:=y4_o_L2) (len:=y4_n_L2) (t:=71) (x:=(.tmp 39)) (ix:=(.tmp 41)) (et:=34) (k:=1) (e:=(eI .u32)) (l:=k0_0) (i:=(IntKind.wrap .i64 (z1-1))) (q:=.i64) (a:=a14) (by kernel_rfl) (by kernel_rfl) (by kernel_rfl) (by kernel_rfl) (by kernel_rfl) (by kernel_rfl) h12 h13 h15 (by kernel_rfl))<|mLd 0 (eI .u32) h15<|Abr 0 h Abm Abl (fun h=>h.elim fun h17 h=>h.elim fun h16 h=>mVl 7 (Ak3 (s:=0) (ps:=[]) (off:=y4_o_L2) (len:=y4_n_L2) (t:=71) (x:=(.tmp 47)) (ix:=(.tmp 48)) (et:=34) (k:=1) (e:=(eI .u32)) (l:=k0_0) (i:=z1) (q:=.i64) (a:=a10) (by kernel_rfl) (by kernel_rfl) (by kernel_rfl) (by kernel_rfl) (by kernel_rfl) (by kernel_rfl) h16 h17 h11 (by kernel_rfl))<|mLd 0 (eI .u32) h11<|mIy 0 (eI .u32) h fun a18 h19 h=>mSto 0 (eI .u32) a10 h19<|mFin 6 h) fun h=>mFin 3 h) fun h=>h.elim fun h20 h=>h.elim fun h21 h=>mVl 6 (Alm (s:=0) (ps:=[]) (t:=71) (x:=(.tmp 54)) (lo:=(some (.tmp 55))) (hi:=none) (lo':=some z0.toNat) (hi':=none) (e:=(eI .u32)) (l:=k0_0) (et:=34) (k:=1) (by kernel_rfl) (by kernel_rfl) (Agp (by kernel_rfl)) (Aeo (i:=z0) (q:=.i64) (by kernel_rfl) h20) Afv (by kernel_rfl) (by kernel_rfl) (fun _=>rfl) (by kernel_rfl) h21.1 h21.2)<|h.elim fun h22 h=>mOp 0 (Bah (t:=71) (x:=(.tmp 56)) (s:=0) (ps:=[]) (off:=z0.toNat) (len:=(k0_0.length-z0.toNat)) (l:=k0_0) (e:=(eI .u32)) (et:=34) (z:=uL 0) (k:=1) (by kernel_rfl) (by kernel_rfl) (by kernel_rfl) (by kernel_rfl) (by kernel_rfl) (by kernel_rfl) (by kernel_rfl) (by kernel_rfl) (fun _=>rfl) h22 (by kernel_rfl)) <|
 h.elim fun h23 h=>h.elim fun h24 h=>h.elim fun h25 h=>mVl 4 (Ap2 (t:=71) (x:=(.tmp 57)) (hi:=(some (.tmp 58))) (hi':=z0.toNat) (e:=(eI .u32)) (l:=k0_0) (off:=z0.toNat) (len:=(k0_0.length-z0.toNat)) (z:=uL 0) (et:=34) (k:=1) (s:=0) (ps:=[]) (by kernel_rfl) (by kernel_rfl) (by kernel_rfl) (Aeo (i:=z0) (q:=.i64) (by kernel_rfl) h23) (by kernel_rfl) (by kernel_rfl) (fun _=>rfl) (by kernel_rfl) (by kernel_rfl) h24 h25)<|h.elim fun h26 h=>mRet 2 h (hl:=(Axd (t:=2) (s:=0) (n:=z0.toNat) (m:=(zH z0.toNat k0_0)) (e:=(eI .u32)) (es:=clr (eI .u32) k0_0 z0.toNat (k0_0.length-z0.toNat) (uL 0)) (by kernel_rfl) (by kernel_rfl) (by kernel_rfl) (by rw[Avi (by first|exact h26.1|omega)];exact h26.2.1) (Az8 h26.1 h26.2.2) (by kernel_rfl)))
def K3(z0:List Int)(z1:Int)(y4_o_L2 y4_n_L2:Nat)(z2:Int)(J:(List Int×Bool)->Prop)(h:L2 z0 z1 y4_o_L2 y4_n_L2 (IntKind.wrap .i64 (z2+1)) J):L3 z0 z1 y4_o_L2 y4_n_L2 z2 J:=mIn<|mFin 5 h
def nt(k0_0:List Int)(J:(List Int×Bool)->Prop)(h:(if(k0_0.length:Int)<2 then J (⟨k0_0,true⟩)else L1 k0_0 1 J)):∃r,J r/\C k0_0 r:=mE Tryz.f124 B W res<|mLen 5 (eI .u32) k0_0<|mAsk 0 h dT dF (fun h=>mRet 6 h) fun h=>mFin 6 h
end q14_
namespace q90_
def B:=bd Tryz.f94
def W:=[0,2,3]
def res(r:List Int):D×List D:=(.sl (r.map (eI .u32)),[])
def C(x0 r:List Int):Prop:=Ret env 94 [.sl (x0.map (eI .u32))] (res r).1 (res r).2
def nt(x0:List Int)(J:List Int->Prop)(h:x0.length*4<=140737488355328/\∃r2:List Int,q7_.C x0 r2/\∃r3:(List Int×Bool),q14_.C r2 r3/\J r3.1):∃r,J r/\C x0 r:=mE Tryz.f94 B W res<|h.elim fun h1 h=>Aoa 5 (show Ret env 73 [.sl (x0.map (eI .u32))] (.own (x0.map (eI .u32))) []from Amd (k:=1) (b:=4) (e:=(eI .u32)) (l:=x0) (by kernel_rfl) (fun _=>rfl) h1) (hf:=(Aak (Aaj (e:=(eI .u32)) (fun _=>rfl)) rfl))<|mCal 4 h (fun _ h=>h) (hf:=(fun _=>Apf (Abq Aan) (Aaj (e:=(eI .u32)) (fun _=>rfl)))) fun r2 _ h=>Ayg 3 h (fun _ h=>h) (fun(r3:(List Int×Bool))=>Awn (l:=r3.1) (e:=(eI .u32)) rfl (fun _=>rfl)) (hf:=(fun _=>Bf9 (Bfn (e:=(eI .u32)) (fun _=>rfl)) rfl)) fun r3 _ h=>mRet 2 h
end q90_
namespace q91_
def B:=bd Tryz.f49
def W:=[0,1,4,5,9,17]
def res(r:Bool):D×List D:=(bL r,[])
def C(x0:List Int)(x1:Int)(r:Bool):Prop:=Ret env 49 [.sl (x0.map (eI .u32)),uL x1] (res r).1 (res r).2
def L1(x0:List Int)(x1 z0:Int)(J:Bool->Prop):Prop:=Pt env 49 W B [1,0,1,0] [(0,.sl (x0.map (eI .u32))),(1,uL x1),(5,iL z0)] (Lv env 49 Tryz.f49 2 res J)
def K1(x0:List Int)(x1 z0:Int)(J:Bool->Prop)(h:(if z0<(x0.length:Int)then ∃a1,lget x0 z0=some a1/\(if a1=x1 then J true else L1 x0 x1 (IntKind.wrap .i64 (z0+1)) J)else J false)):L1 x0 x1 z0 J:=mIn<|mLen 4 (eI .u32) x0<|mAsk 0 h dT dF (fun h=>mIx 6 (eI .u32) h fun a1 h2 h=>mAsk 2 h Abd Abc (fun h=>mRet 5 h) fun h=>mFin 8 h) fun h=>mRet 6 h
def nt(x0:List Int)(x1:Int)(J:Bool->Prop)(h:L1 x0 x1 0 J):∃r,J r/\C x0 x1 r:=mE Tryz.f49 B W res<|mFin 6 h
end q91_
namespace q92_
end q92_
namespace q59_
end q59_
namespace q117_
def B:=bd Tryz.f90
def W:=[0,1,2,4,5,7,8,9,11,12,13,14]
def res(r:ByteArray):D×List D:=(tL r,[])
def C(x0:api_Row)(x1:Int)(r:ByteArray):Prop:=Ret env 90 [.agg [iL x0.ID,.sl (x0.Values.map Aa1)],uL x1] (res r).1 (res r).2
def L1(x0:api_Row)(z0:ByteArray)(r1:List Int)(z1:Int)(J:ByteArray->Prop):Prop:=Pt env 90 W B [1,1,0,1,0] [(0,.agg [iL x0.ID,.sl (x0.Values.map Aa1)]),(2,.box [iL x0.ID,.sl (x0.Values.map Aa1)]),(5,tL z0),(11,.own (r1.map (eI .i64))),(12,iL (r1.length:Int)),(13,iL z1)] (Lv env 90 Tryz.f90 2 res J)
def K1(x0:api_Row)(z0:ByteArray)(r1:List Int)(z1:Int)(J:ByteArray->Prop)(h:(if z1<(r1.length:Int)then ∃a2,lget r1 z1=some a2/\∃a4,lget x0.Values a2=some a4/\∃r6:ByteArray×Int,q116_.C a4 r6/\(z0).size+(r6.1).size<=9223372036854775807/\L1 x0 (z0++r6.1) r1 (IntKind.wrap .i64 (z1+1)) J else J z0)):L1 x0 z0 r1 z1 J:=mIn<|mAsk 2 h dT dF (fun h=>mIy 4 (eI .i64) h fun a2 h3 h=>mLd 0 (eI .i64) h3<|mIx 6 Aa1 h fun a4 h5 h=>mCal 1 h (fun _ h=>h) (hf:=(fun _=>Aak (Abq (Aa6 rfl (Aa6 rfl Aan))) rfl)) fun r6 _ h=>h.elim fun h7 h=>mBi 9 (Bjg (t:=9) h7)<|mFin 6 h) fun h=>mRet 7 h
def nt(x0:api_Row)(x1:Int)(J:ByteArray->Prop)(h:∃r1:List Int,q69_.C x1 r1/\L1 x0 (⟨#[]⟩:ByteArray) r1 0 J):∃r,J r/\C x0 x1 r:=mE Tryz.f90 B W res<|mCal 9 h (fun _ h=>h) (hf:=(fun _=>Aak (Aaj (e:=(eI .i64)) (fun _=>rfl)) rfl)) fun r1 _ h=>mLen 0 (eI .i64) r1<|mFin 2 h
end q117_
namespace q111_
def res(r:Bool×Int):D×List D:=(.tup [bL r.1,iL r.2],[])
def C(x0:api_Table)(x1:api_MVD)(r:Bool×Int):Prop:=Ret env 45 [.agg [tL x0.Name,.sl (x0.Attrs.map eS),.sl (x0.Rows.map Aa2)],.agg [uL x1.Lhs,uL x1.Rhs]] (res r).1 (res r).2
end q111_
namespace q21_
def B:=bd Tryz.f115
def W:=[0,1,2,4]
def res(r:Bool):D×List D:=(bL r,[])
def C(x0:Int)(k1_0 k2_0:List Int)(r:Bool):Prop:=Ret env 115 [iL x0,.ref [.sl (k1_0.map (eI .i64))],.ref [.sl (k2_0.map (eI .i64))]] (res r).1 (res r).2
def nt(x0:Int)(k1_0 k2_0:List Int)(J:Bool->Prop)(h:∃a1,lget k1_0 x0=some a1/\∃a3,lget k2_0 0=some a3/\∃a5,lget k1_0 a3=some a5/\J (a1 != a5)):∃r,J r/\C x0 k1_0 k2_0 r:=mE Tryz.f115 B W res<|mIx 6 (eI .i64) h fun a1 h2 h=>mIx 3 (eI .i64) h fun a3 h4 h=>mIx 1 (eI .i64) h fun a5 h6 h=>mRet 4 h
end q21_
namespace q9_
def B:=bd Tryz.f136
def W:=[0,1,4,5,7,8,9,16]
def res(r:Int):D×List D:=(iL r,[])
def C(x0 k1_0 k1_1:List Int)(r:Int):Prop:=Ret env 136 [.sl (x0.map (eI .i64)),.fn 115 [.ref [.sl (k1_0.map (eI .i64))],.ref [.sl (k1_1.map (eI .i64))]]] (res r).1 (res r).2
def L1(x0 k1_0 k1_1:List Int)(z0:Int)(J:Int->Prop):Prop:=Pt env 136 W B [1,0,1,0] [(0,.sl (x0.map (eI .i64))),(1,.fn 115 [.ref [.sl (k1_0.map (eI .i64))],.ref [.sl (k1_1.map (eI .i64))]]),(7,iL (x0.length:Int)),(8,iL z0)] (Lv env 136 Tryz.f136 2 res J)
def K1(x0 k1_0 k1_1:List Int)(z0:Int)(J:Int->Prop)(h:(if z0<(x0.length:Int)then ∃a1,lget x0 z0=some a1/\∃r3:Bool,q21_.C a1 k1_0 k1_1 r3/\(if r3=true then J z0 else L1 x0 k1_0 k1_1 (IntKind.wrap .i64 (z0+1)) J)else J (-1))):L1 x0 k1_0 k1_1 z0 J:=mIn<|mAsk 2 h dT dF (fun h=>mIx 11 (eI .i64) h fun a1 h2 h=>Ab3 1 h (fun _ h=>h) (fun _ h=>mRet 6 h) fun _ h=>mFin 7 h) fun h=>mRet 6 h
def nt(x0 k1_0 k1_1:List Int)(J:Int->Prop)(h:L1 x0 k1_0 k1_1 0 J):∃r,J r/\C x0 k1_0 k1_1 r:=mE Tryz.f136 B W res<|mLen 5 (eI .i64) x0<|mFin 2 h
end q9_
namespace q5_
def B:=bd Tryz.f114
def W:=[0,1,4]
def res(r:Bool):D×List D:=(bL r,[])
def C(x0 k1_0 k1_1:List Int)(r:Bool):Prop:=Ret env 114 [.sl (x0.map (eI .i64)),.fn 115 [.ref [.sl (k1_0.map (eI .i64))],.ref [.sl (k1_1.map (eI .i64))]]] (res r).1 (res r).2
def nt(x0 k1_0 k1_1:List Int)(J:Bool->Prop)(h:∃r1:Int,q9_.C x0 k1_0 k1_1 r1/\J (decide (0<=r1))):∃r,J r/\C x0 k1_0 k1_1 r:=mE Tryz.f114 B W res<|mCal 6 h (fun _ h=>h) fun r1 _ h=>mRet 3 h
end q5_
namespace q29_
def B:=bd Tryz.f113
def W:=[0,1,2,3]
def res(r:Bool):D×List D:=(bL r,[])
def C(x0 k1_0:List Int)(r:Bool):Prop:=Ret env 113 [.sl (x0.map (eI .i64)),.ref [.sl (k1_0.map (eI .i64))]] (res r).1 (res r).2
def nt(x0 k1_0:List Int)(J:Bool->Prop)(h:∃r1:Bool,q5_.C x0 k1_0 x0 r1/\J r1):∃r,J r/\C x0 k1_0 r:=mE Tryz.f113 B W res<|mCal 7 h (fun _ h=>h) fun r1 _ h=>mRet 2 h
end q29_
namespace q10_
def B:=bd Tryz.f135
def W:=[0,1,4,5,7,8,9,16]
def res(r:Int):D×List D:=(iL r,[])
def C(x0:List (List Int))(k1_0:List Int)(r:Int):Prop:=Ret env 135 [.sl (x0.map (eSl (eI .i64))),.fn 113 [.ref [.sl (k1_0.map (eI .i64))]]] (res r).1 (res r).2
def L1(x0:List (List Int))(k1_0:List Int)(z0:Int)(J:Int->Prop):Prop:=Pt env 135 W B [1,0,1,0] [(0,.sl (x0.map (eSl (eI .i64)))),(1,.fn 113 [.ref [.sl (k1_0.map (eI .i64))]]),(7,iL (x0.length:Int)),(8,iL z0)] (Lv env 135 Tryz.f135 2 res J)
def K1(x0:List (List Int))(k1_0:List Int)(z0:Int)(J:Int->Prop)(h:(if z0<(x0.length:Int)then ∃a1,lget x0 z0=some a1/\∃r3:Bool,q29_.C a1 k1_0 r3/\(if r3=true then J z0 else L1 x0 k1_0 (IntKind.wrap .i64 (z0+1)) J)else J (-1))):L1 x0 k1_0 z0 J:=mIn<|mAsk 2 h dT dF (fun h=>mIx 11 (eSl (eI .i64)) h fun a1 h2 h=>Ab3 1 h (fun _ h=>h) (fun _ h=>mRet 6 h) fun _ h=>mFin 7 h) fun h=>mRet 6 h
def nt(x0:List (List Int))(k1_0:List Int)(J:Int->Prop)(h:L1 x0 k1_0 0 J):∃r,J r/\C x0 k1_0 r:=mE Tryz.f135 B W res<|mLen 5 (eSl (eI .i64)) x0<|mFin 2 h
end q10_
namespace q6_
def B:=bd Tryz.f112
def W:=[0,1,4]
def res(r:Bool):D×List D:=(bL r,[])
def C(x0:List (List Int))(k1_0:List Int)(r:Bool):Prop:=Ret env 112 [.sl (x0.map (eSl (eI .i64))),.fn 113 [.ref [.sl (k1_0.map (eI .i64))]]] (res r).1 (res r).2
def nt(x0:List (List Int))(k1_0:List Int)(J:Bool->Prop)(h:∃r1:Int,q10_.C x0 k1_0 r1/\J (decide (0<=r1))):∃r,J r/\C x0 k1_0 r:=mE Tryz.f112 B W res<|mCal 6 h (fun _ h=>h) fun r1 _ h=>mRet 3 h
end q6_
namespace q44_
def B:=bd Tryz.f88
def W:=[0,1,2,3,4,5,9]
def res(r:Bool):D×List D:=(bL r,[])
def C(x0 x1:api_Partition)(r:Bool):Prop:=Ret env 88 [.agg [iL x0.Rows,.sl (x0.Classes.map (eSl (eI .i64)))],.agg [iL x1.Rows,.sl (x1.Classes.map (eSl (eI .i64)))]] (res r).1 (res r).2
def nt(x0 x1:api_Partition)(J:Bool->Prop)(h:∃r1:Int,q85_.C x0 x1 r1/\(if r1=0 then ∃r2:List Int,q57_.C x1 r2/\∃r3:Bool,q6_.C x0.Classes r2 r3/\J (not r3)else J false)):∃r,J r/\C x0 x1 r:=mE Tryz.f88 B W res<|mCal 8 h (fun _ h=>h) fun r1 _ h=>Abr 0 h Abm Abl (fun h=>mRet 5 h) fun h=>mCal 5 h (fun _ h=>h) (hf:=(fun _=>Aak (Aaj (e:=(eI .i64)) (fun _=>rfl)) rfl)) fun r2 _ h=>mCal 7 h (fun _ h=>h) (hr:=by exact(pr_k (Abs (Blr (Abo (Biv (s:=5) (ps:=[]) (by kernel_rfl) (Aca (Acj (e:=(eI .i64)) (e':=(eI .i64)) (fun _=>rfl) r2) Agq)) Agi)) Ad2))) fun r3 _ h=>mRet 3 h
end q44_
end Go.Own
namespace Go.Own
def Bhd{a b:api_Partition}(h:Alu a b=0):Ad8 a=true/\Ad8 b=true/\a.Rows=b.Rows:=by
 unfold Alu at h
 split at h
 .split at h
  .split at h
   .exact ⟨by assumption,by assumption,by assumption⟩
   .omega
  .omega
 .omega
def Bad1(l c:List Int)(i:Int):Prop:=lab1 l i≠lab1 l (c.headD 0)
structure In1(l c:List Int):Prop where
 ne:c≠[]
 has:∀i∈c,∃a,lget l i=some a
def q21_.sP{l c:List Int}(h:In1 l c){i:Int}(hi:i∈c):∃b,q21_.C i l c b/\(b=true↔Bad1 l c i):=by
 obtain⟨a,ha⟩:=h.has i hi;obtain⟨h0,hh0⟩:∃h0,c[0]?=some h0:=by
  match c,h.ne with
  |x::t,_=>exact⟨x,rfl⟩
 have hd:c.headD 0=h0:=by
  match c,hh0 with
  |x::t,e=>simpa using e
 obtain⟨b,hb⟩:=h.has h0 (zB hh0);obtain⟨r,h1,h2⟩:=q21_.nt i l c (fun r=>(r=true↔Bad1 l c i)) (by
  refine⟨a,ha,h0,by have:=Ac6 (l:=c) (k:=0);rw[hh0]at this;exact this,b,hb,?_⟩;unfold Bad1;rw[hd,Bcj ha,Bcj hb]
  simp)
 exact⟨r,h2,h1⟩
namespace q9_
def loop{l c:List Int}(h:In1 l c)(hn:c.length<Big):∀(r:List Int)(k:Nat),c.drop k=r->(∀i∈c.take k,¬Bad1 l c i)->L1 c l c k (fun r=>(0<=r↔∃i∈c,Bad1 l c i))
 |[],k,hd,hb=>by
  apply K1;have hk:=Aap hd;rw[if_neg (by omega)];rw[zK hk]at hb;constructor
  .intro h;omega
  .rintro ⟨i,h1,h2⟩;exact absurd h2 (hb i h1)
 |i::r,k,hd,hb=>by
  apply K1;have hk:=Aaq hd;have hi:=zB (Aab hd);rw[if_pos (by omega)];obtain⟨b,h1,h2⟩:=q21_.sP h hi;refine⟨i,Ab9 hd,b,h1,?_⟩
  split
  .rename_i hbt;exact⟨fun _=>⟨i,hi,h2.1 hbt⟩,fun _=>by omega⟩
  .rename_i hbf;rw[Aa5 (by unfold Big at hn;omega)];refine loop h hn r (k+1) (Aa8 hd) fun j hj=>?_;rw[Afr (Aab hd)]at hj;rcases zM.1 hj with hj|hj
   .exact hb j hj
   .simp at hj;subst hj;exact fun hh=>hbf (h2.2 hh)
def sP{l c:List Int}(h:In1 l c)(hn:c.length<Big):∃r,C c l c r/\(0<=r↔∃i∈c,Bad1 l c i):=by
 obtain⟨r,h1,h2⟩:=nt c l c (fun r=>(0<=r↔∃i∈c,Bad1 l c i)) (loop h hn c 0 rfl (by simp));exact⟨r,h2,h1⟩
end q9_
def q5_.sP{l c:List Int}(h:In1 l c)(hn:c.length<Big):∃b,q5_.C c l c b/\(b=true↔∃i∈c,Bad1 l c i):=by
 obtain⟨r,h1,h2⟩:=q5_.nt c l c (fun b=>(b=true↔∃i∈c,Bad1 l c i)) (by
  obtain⟨q,q1,q2⟩:=q9_.sP h hn;refine⟨q,q1,?_⟩
  rw[<-q2];simp)
 exact⟨r,h2,h1⟩
def q29_.sP{l c:List Int}(h:In1 l c)(hn:c.length<Big):∃b,q29_.C c l b/\(b=true↔∃i∈c,Bad1 l c i):=by
 obtain⟨r,h1,h2⟩:=q29_.nt c l (fun b=>(b=true↔∃i∈c,Bad1 l c i)) (q5_.sP h hn);exact⟨r,h2,h1⟩
def Bad2(l:List Int)(c:List Int):Prop:=∃i∈c,Bad1 l c i
namespace q10_
def loop{l:List Int}{cs:List (List Int)}(h:∀c∈cs,In1 l c)(hn:cs.length<Big)(hn2:∀c∈cs,c.length<Big):∀(r:List (List Int))(k:Nat),cs.drop k=r->(∀c∈cs.take k,¬Bad2 l c)->L1 cs l k (fun r=>(0<=r↔∃c∈cs,Bad2 l c))
 |[],k,hd,hb=>by
  apply K1;have hk:=Aap hd;rw[if_neg (by omega)];rw[zK hk]at hb;constructor
  .intro h;omega
  .rintro ⟨i,h1,h2⟩;exact absurd h2 (hb i h1)
 |c::r,k,hd,hb=>by
  apply K1;have hk:=Aaq hd;have hc:=zB (Aab hd);rw[if_pos (by omega)];obtain⟨b,h1,h2⟩:=q29_.sP (h c hc) (hn2 c hc);refine⟨c,Ab9 hd,b,h1,?_⟩
  split
  .rename_i hbt;exact⟨fun _=>⟨c,hc,h2.1 hbt⟩,fun _=>by omega⟩
  .rename_i hbf;rw[Aa5 (by unfold Big at hn;omega)];refine loop h hn hn2 r (k+1) (Aa8 hd) fun j hj=>?_;rw[Afr (Aab hd)]at hj;rcases zM.1 hj with hj|hj
   .exact hb j hj
   .simp at hj;subst hj;exact fun hh=>hbf (h2.2 hh)
def sP{l:List Int}{cs:List (List Int)}(h:∀c∈cs,In1 l c)(hn:cs.length<Big)(hn2:∀c∈cs,c.length<Big):∃r,C cs l r/\(0<=r↔∃c∈cs,Bad2 l c):=by
 obtain⟨r,h1,h2⟩:=nt cs l (fun r=>(0<=r↔∃c∈cs,Bad2 l c)) (loop h hn hn2 cs 0 rfl (by simp));exact⟨r,h2,h1⟩
end q10_
def q6_.sP{l:List Int}{cs:List (List Int)}(h:∀c∈cs,In1 l c)(hn:cs.length<Big)(hn2:∀c∈cs,c.length<Big):∃b,q6_.C cs l b/\(b=true↔∃c∈cs,Bad2 l c):=by
 obtain⟨r,h1,h2⟩:=q6_.nt cs l (fun b=>(b=true↔∃c∈cs,Bad2 l c)) (by
  obtain⟨q,q1,q2⟩:=q10_.sP h hn hn2;refine⟨q,q1,?_⟩
  rw[<-q2];simp)
 exact⟨r,h2,h1⟩
def RefP(a b:api_Partition):Prop:=Alu a b=0/\∀i j,0<=i/\i<a.Rows->0<=j/\j<a.Rows->Same a i j->Same b i j
def q44_.sP{a b:api_Partition}(ha:Ajc a)(hb:Ajc b):∃r,q44_.C a b r/\(r=true↔RefP a b):=by
 obtain⟨r,h1,h2⟩:=q44_.nt a b (fun r=>(r=true↔RefP a b)) (by
  refine⟨_,q85_.sP ha hb,?_⟩
  split
  .rename_i h0;obtain⟨va,vb,hr⟩:=Bhd h0;obtain⟨v1,v2,v3⟩:=Agj.1 va;have hin:∀c∈a.Classes,In1 (labN b) c:=fun c hc=>⟨fun hn=>by have:=v3.two c hc;rw[hn]at this;simp at this,fun i hi=>Agu (v3.inn c hc i hi).1 (by have:=(v3.inn c hc i hi).2;rw[Asq];omega)⟩
   obtain⟨q,q1,q2⟩:=q6_.sP hin ha.1 ha.2;refine⟨_,q57_.sP hb vb,q,q1,?_⟩;have key:(∃c∈a.Classes,Bad2 (labN b) c)↔¬RefP a b:=by
    have sm:∀{i j:Int},0<=i/\i<a.Rows->0<=j/\j<a.Rows->(lab1 (labN b) i=lab1 (labN b) j↔Same b i j):=fun hi hj=>by
     rw[Bi4 (by rw[Asq];omega) (by rw[Asq];omega),Bg2 vb (by omega) (by omega)]
    constructor
    .rintro ⟨c,hc,i,hi,hbad⟩ hR;have m1:=v3.inn c hc i hi;have hm:=Bfu (v3.two c hc);have m2:=v3.inn c hc _ hm;exact hbad ((sm m1 m2).2 (hR.2 i _ m1 m2 (.inr ⟨c,hc,hi,hm⟩)))
    .intro hR;apply zP;intro hno;apply hR;refine⟨h0,fun i j hi hj hs=>?_⟩;rcases hs with rfl|⟨c,hc,h1,h2⟩
     .exact .inl rfl
     .have e:∀k∈c,lab1 (labN b) k=lab1 (labN b) (c.headD 0):=fun k hk=>zP fun hne=>hno ⟨c,hc,k,hk,hne⟩;exact(sm hi hj).1 ((e i h1).trans (e j h2).symm)
   cases q with
   |true=>simp only[Bool.not_true,yF,false_iff];exact key.1 (q2.1 rfl)
   |false=>
    simp only[Bool.not_false,true_iff];exact zP fun hn=>by have:=q2.2 (key.2 hn);cases this
  .rename_i h0;simp only[yF,false_iff]
   exact fun hR=>h0 hR.1)
 exact⟨r,h2,h1⟩
structure Lbl(x:api_Partition)(r:List Int):Prop where
 has:∀c∈x.Classes,∀i∈c,∃a,lget r i=some a
namespace drossref08_Removal
end drossref08_Removal
end Go.Own
namespace Go.Own
open Go.Proofs D
set_option maxRecDepth 100000
set_option maxHeartbeats 4000000
namespace q23_
def B:=bd Tryz.f16
def W:=[0,1,2,3,4,5,6,11,16,47]
def res(r:Bool):D×List D:=(bL r,[])
def C(x0:api_Table)(x1:api_FD)(r:Bool):Prop:=Ret env 16 [.agg [tL x0.Name,.sl (x0.Attrs.map eS),.sl (x0.Rows.map Aa2)],.agg [uL x1.Lhs,uL x1.Rhs]] (res r).1 (res r).2
def L1(x0:api_Table)(x1:api_FD)(z0:Int)(J:Bool->Prop):Prop:=Pt env 16 W B [1,0,1,0] [(0,.agg [tL x0.Name,.sl (x0.Attrs.map eS),.sl (x0.Rows.map Aa2)]),(1,.agg [uL x1.Lhs,uL x1.Rhs]),(2,.box [tL x0.Name,.sl (x0.Attrs.map eS),.sl (x0.Rows.map Aa2)]),(3,.box [uL x1.Lhs,uL x1.Rhs]),(5,iL z0)] (Lv env 16 Tryz.f16 2 res J)
def L2(x0:api_Table)(x1:api_FD)(z0 z1:Int)(J:Bool->Prop):Prop:=Pt env 16 W B [1,0,1,0,0,1,0,0,1,0] [(0,.agg [tL x0.Name,.sl (x0.Attrs.map eS),.sl (x0.Rows.map Aa2)]),(1,.agg [uL x1.Lhs,uL x1.Rhs]),(2,.box [tL x0.Name,.sl (x0.Attrs.map eS),.sl (x0.Rows.map Aa2)]),(3,.box [uL x1.Lhs,uL x1.Rhs]),(5,iL z0),(6,iL z1)] (Lv env 16 Tryz.f16 2 res J)
def L3(x0:api_Table)(x1:api_FD)(z0 z1:Int)(J:Bool->Prop):Prop:=Pt env 16 W B [1,0,1,0,0,1,0,0,1,0,0,1,1] [(0,.agg [tL x0.Name,.sl (x0.Attrs.map eS),.sl (x0.Rows.map Aa2)]),(1,.agg [uL x1.Lhs,uL x1.Rhs]),(2,.box [tL x0.Name,.sl (x0.Attrs.map eS),.sl (x0.Rows.map Aa2)]),(3,.box [uL x1.Lhs,uL x1.Rhs]),(5,iL z0),(6,iL z1)] (Lv env 16 Tryz.f16 2 res J)
def K1(x0:api_Table)(x1:api_FD)(z0:Int)(J:Bool->Prop)(h:(if z0<(x0.Rows.length:Int)then L2 x0 x1 z0 0 J else J true)):L1 x0 x1 z0 J:=mIn<|mLen 5 Aa2 x0.Rows<|mAsk 0 h dT dF (fun h=>mFin 6 h) fun h=>mRet 6 h
def K2(x0:api_Table)(x1:api_FD)(z0 z1:Int)(J:Bool->Prop)(h:(if z1<z0 then ∃a1,lget x0.Rows z0=some a1/\∃a3,lget x0.Rows z1=some a3/\∃r5:Bool,q52_.C a1 a3 x1.Lhs r5/\(if r5=true then ∃r6:Bool,q52_.C a1 a3 x1.Rhs r6/\(if r6=true then L3 x0 x1 z0 z1 J else J false)else L3 x0 x1 z0 z1 J)else L1 x0 x1 (IntKind.wrap .i64 (z0+1)) J)):L2 x0 x1 z0 z1 J:=mIn<|mAsk 4 h dT dF (fun h=>mIx 7 Aa2 h fun a1 h2 h=>mIx 4 Aa2 h fun a3 h4 h=>Ab3 3 h (fun _ h=>h) (fun _ h=>mIxf 4 Aa2 h2<|mIxf 4 Aa2 h4<|Ab3 3 h (fun _ h=>h) (fun _ h=>mFin 5 h) fun _ h=>mRet 7 h) fun _ h=>mFin 19 h) fun h=>mFin 8 h
def K3(x0:api_Table)(x1:api_FD)(z0 z1:Int)(J:Bool->Prop)(h:L2 x0 x1 z0 (IntKind.wrap .i64 (z1+1)) J):L3 x0 x1 z0 z1 J:=mIn<|mFin 5 h
def nt(x0:api_Table)(x1:api_FD)(J:Bool->Prop)(h:L1 x0 x1 0 J):∃r,J r/\C x0 x1 r:=mE Tryz.f16 B W res<|mFin 8 h
end q23_
namespace q77_
def B:=bd Tryz.f44
def W:=[0,1,2,3,4,5,6,10,19]
def res(r:Bool×Int):D×List D:=(.tup [bL r.1,iL r.2],[])
def C(x0:api_Table)(x1:api_FD)(r:Bool×Int):Prop:=Ret env 44 [.agg [tL x0.Name,.sl (x0.Attrs.map eS),.sl (x0.Rows.map Aa2)],.agg [uL x1.Lhs,uL x1.Rhs]] (res r).1 (res r).2
def nt(x0:api_Table)(x1:api_FD)(J:Bool×Int->Prop)(h:∃r1:Int,q109_.C x0 r1/\(if r1=0 then ∃r2:Bool,q58_.C x0 (bOr .u32 x1.Lhs x1.Rhs) r2/\(if r2=true then ∃r3:api_Partition,q101_.C x0 x1.Lhs r3/\∃r4:api_Partition,q101_.C x0 x1.Rhs r4/\∃r5:Bool,q44_.C r3 r4 r5/\J (r5,0)else J (false,6))else J (false,r1))):∃r,J r/\C x0 x1 r:=mE Tryz.f44 B W res<|mCal 8 h (fun _ h=>h) fun r1 _ h=>Abr 4 h Abm Abl (fun h=>mRet 7 h) fun h=>Ab3 10 h (fun _ h=>h) (fun _ h=>mLo 8 h (fun _ h=>h) (hf:=(fun _=>Avv)) fun r3 _ h=>mCal 3 h (fun _ h=>h) (hf:=(fun _=>Ahn)) fun r4 _ h=>mCal 0 h (fun _ h=>h) fun r5 _ h=>mRet 3 h) fun _ h=>mRet 7 h
end q77_
namespace q33_
end q33_
namespace q78_
end q78_
namespace q24_
end q24_
namespace q34_
end q34_
namespace q60_
def res(r:Bool):D×List D:=(bL r,[])
def C(x0 x1:api_Table)(r:Bool):Prop:=Ret env 25 [.agg [tL x0.Name,.sl (x0.Attrs.map eS),.sl (x0.Rows.map Aa2)],.agg [tL x1.Name,.sl (x1.Attrs.map eS),.sl (x1.Rows.map Aa2)]] (res r).1 (res r).2
end q60_
namespace q103_
def B:=bd Tryz.f33
def W:=[0,1,4,5,6,7,8,9,10,12,13,14,26,27,28,29,36,37,38]
def res(r:api_Table):D×List D:=(.agg [tL r.Name,.own (r.Attrs.map eS),.own (r.Rows.map Aam)],[])
def C(x0:Int)(x1:List Int)(r:api_Table):Prop:=Ret env 33 [iL x0,.sl (x1.map (eI .u32))] (res r).1 (res r).2
def L1(x0:Int)(x1:List Int)(z0:List ByteArray)(z1:Int)(J:api_Table->Prop):Prop:=Pt env 33 W B [1,1,0,1,0] [(0,iL x0),(1,.sl (x1.map (eI .u32))),(4,.box [tL (⟨#[]⟩:ByteArray),.own [],.own []]),(5,.box [tL (⟨#[116]⟩:ByteArray),.own (z0.map eS),.own []]),(12,iL x0),(13,iL z1)] (Lv env 33 Tryz.f33 2 res J)
def L2(x0:Int)(x1:List Int)(z0:List ByteArray)(z1:List api_Row)(z2:Int)(J:api_Table->Prop):Prop:=Pt env 33 W B [1,1,1,0,1,0] [(0,iL x0),(1,.sl (x1.map (eI .u32))),(4,.box [tL (⟨#[]⟩:ByteArray),.own [],.own []]),(5,.box [tL (⟨#[116]⟩:ByteArray),.own (z0.map eS),.own (z1.map Aam)]),(26,.sl (x1.map (eI .u32))),(27,iL (x1.length:Int)),(28,iL z2)] (Lv env 33 Tryz.f33 2 res J)
def L3(x0:Int)(x1:List Int)(z0:List ByteArray)(z1:List api_Row)(a2 z2:Int)(z3:List api_Value)(z4 z5:Int)(J:api_Table->Prop):Prop:=Pt env 33 W B [1,1,1,0,1,0,0,1,1,0,0,1,1,0,1,0] [(0,iL x0),(1,.sl (x1.map (eI .u32))),(4,.box [tL (⟨#[]⟩:ByteArray),.own [],.own []]),(5,.box [tL (⟨#[116]⟩:ByteArray),.own (z0.map eS),.own (z1.map Aam)]),(8,uL a2),(9,.box [iL z2,.own (z3.map Aa1)]),(26,.sl (x1.map (eI .u32))),(27,iL (x1.length:Int)),(28,iL z4),(36,iL x0),(37,iL z5)] (Lv env 33 Tryz.f33 2 res J)
def K1(x0:Int)(x1:List Int)(z0:List ByteArray)(z1:Int)(J:api_Table->Prop)(h:(if z1<x0 then(z0.length+1)*16<=140737488355328/\L1 x0 x1 (z0++[(Utf8.encode (IntKind.wrap .i32 (IntKind.wrap .i64 (97+z1))))]) (IntKind.wrap .i64 (z1+1)) J else L2 x0 x1 z0 ([]) 0 J)):L1 x0 x1 z0 z1 J:=mIn<|mAsk 2 h dT dF (fun h=>mApp 15 eS z0 ([(Utf8.encode (IntKind.wrap .i32 (IntKind.wrap .i64 (97+z1))))]) h fun h=>mFin 7 h) fun h=>mLen 5 (eI .u32) x1<|mFin 2 h
def K2(x0:Int)(x1:List Int)(z0:List ByteArray)(z1:List api_Row)(z2:Int)(J:api_Table->Prop)(h:(if z2<(x1.length:Int)then ∃a2,lget x1 z2=some a2/\L3 x0 x1 z0 z1 a2 (IntKind.wrap .i64 (z2+1)) ([]) z2 0 J else J (⟨(⟨#[116]⟩:ByteArray),z0,z1⟩:api_Table))):L2 x0 x1 z0 z1 z2 J:=mIn<|mAsk 2 h dT dF (fun h=>mIx 5 (eI .u32) h fun a2 h3 h=>mFin 15 h) fun h=>mRet 7 h
def K3(x0:Int)(x1:List Int)(z0:List ByteArray)(z1:List api_Row)(a2 z2:Int)(z3:List api_Value)(z4 z5:Int)(J:api_Table->Prop)(h:(if z5<x0 then 0<=z5/\(z3.length+1)*32<=140737488355328/\L3 x0 x1 z0 z1 a2 z2 (z3++[(⟨1,(IntKind.wrap .i64 (bAnd .u32 (shrw .u32 a2 z5) 1)),(⟨#[]⟩:ByteArray)⟩:api_Value)]) z4 (IntKind.wrap .i64 (z5+1)) J else(z1.length+1)*32<=140737488355328/\L2 x0 x1 z0 (z1++[(⟨z2,z3⟩:api_Row)]) (IntKind.wrap .i64 (z4+1)) J)):L3 x0 x1 z0 z1 a2 z2 z3 z4 z5 J:=mIn<|mAsk 2 h dT dF (fun h=>h.elim fun h4 h=>mBi 12 (Ahs (t:=34) (q:=.u32) (q':=.i64) (i1:=a2) h4)<|mApp 4 Aa1 z3 ([(⟨1,(IntKind.wrap .i64 (bAnd .u32 (shrw .u32 a2 z5) 1)),(⟨#[]⟩:ByteArray)⟩:api_Value)]) h fun h=>mFin 7 h) fun h=>mApp 8 Aam z1 ([(⟨z2,z3⟩:api_Row)]) h fun h=>mFin 7 h
def nt(x0:Int)(x1:List Int)(J:api_Table->Prop)(h:L1 x0 x1 ([]) 0 J):∃r,J r/\C x0 x1 r:=mE Tryz.f33 B W res<|mFin 12 h
end q103_
namespace q93_
def B:=bd Tryz.f61
def W:=[0,1,4]
def res(r:Bool):D×List D:=(bL r,[])
def C(x0 x1:Int)(r:Bool):Prop:=Ret env 61 [iL x0,uL x1] (res r).1 (res r).2
def nt(x0 x1:Int)(J:Bool->Prop)(h:0<=x0/\J ((shrw .u64 (IntKind.wrap .u64 x1) x0)==0)):∃r,J r/\C x0 x1 r:=mE Tryz.f61 B W res<|h.elim fun h1 h=>mBi 7 (Ahs (t:=143) (q:=.u64) (q':=.i64) (i1:=(IntKind.wrap .u64 x1)) h1)<|mRet 3 h
end q93_
namespace q118_
def res(r:api_Table×Int):D×List D:=(.tup [.agg [tL r.1.Name,.own (r.1.Attrs.map eS),.own (r.1.Rows.map Aam)],iL r.2],[])
def C(x0:Int)(x1:List api_FD)(x2:api_FD)(r:api_Table×Int):Prop:=Ret env 28 [iL x0,.sl (x1.map Aa3),.agg [uL x2.Lhs,uL x2.Rhs]] (res r).1 (res r).2
end q118_
namespace q45_
end q45_
namespace q46_
def B:=bd Tryz.f47
def W:=[0,1,2,6]
def res(r:Bool):D×List D:=(bL r,[])
def C(x0 x1 x2:Int)(r:Bool):Prop:=Ret env 47 [iL x0,uL x1,uL x2] (res r).1 (res r).2
def nt(x0 x1 x2:Int)(J:Bool->Prop)(h:∃r1:Int,q70_.C x0 r1/\∃r2:Bool,q84_.C (bOr .u32 x1 x2) r1 r2/\J r2):∃r,J r/\C x0 x1 x2 r:=mE Tryz.f47 B W res<|mCal 8 h (fun _ h=>h) fun r1 _ h=>mCal 0 h (fun _ h=>h) fun r2 _ h=>mRet 2 h
end q46_
namespace q94_
def res(r:api_Table×Int):D×List D:=(.tup [.agg [tL r.1.Name,.own (r.1.Attrs.map eS),.own (r.1.Rows.map Aam)],iL r.2],[])
def C(x0:Int)(x1:List api_FD)(x2:api_FD)(r:api_Table×Int):Prop:=Ret env 29 [iL x0,.sl (x1.map Aa3),.agg [uL x2.Lhs,uL x2.Rhs]] (res r).1 (res r).2
end q94_
namespace q61_
def B:=bd Tryz.f15
def W:=[0,1,2,3,6,7,8,9,10,14,23,27,40]
def res(r:Bool):D×List D:=(bL r,[])
def C(x0:api_Table)(x1:List api_FD)(x2:List api_MVD)(r:Bool):Prop:=Ret env 15 [.agg [tL x0.Name,.sl (x0.Attrs.map eS),.sl (x0.Rows.map Aa2)],.sl (x1.map Aa3),.sl (x2.map Aa4)] (res r).1 (res r).2
def L1(x0:api_Table)(x1:List api_FD)(x2:List api_MVD)(z0:Int)(J:Bool->Prop):Prop:=Pt env 15 W B [1,0,1,0] [(0,.agg [tL x0.Name,.sl (x0.Attrs.map eS),.sl (x0.Rows.map Aa2)]),(1,.sl (x1.map Aa3)),(2,.sl (x2.map Aa4)),(3,.box [tL x0.Name,.sl (x0.Attrs.map eS),.sl (x0.Rows.map Aa2)]),(7,iL z0)] (Lv env 15 Tryz.f15 3 res J)
def L2(x0:api_Table)(x2:List api_MVD)(z0:Int)(J:Bool->Prop):Prop:=Pt env 15 W B [1,1,0,1,0] [(0,.agg [tL x0.Name,.sl (x0.Attrs.map eS),.sl (x0.Rows.map Aa2)]),(2,.sl (x2.map Aa4)),(3,.box [tL x0.Name,.sl (x0.Attrs.map eS),.sl (x0.Rows.map Aa2)]),(8,iL z0)] (Lv env 15 Tryz.f15 3 res J)
def K1(x0:api_Table)(x1:List api_FD)(x2:List api_MVD)(z0:Int)(J:Bool->Prop)(h:(if z0<(x1.length:Int)then ∃a1,lget x1 z0=some a1/\∃r3:Bool,q23_.C x0 a1 r3/\(if r3=true then L1 x0 x1 x2 (IntKind.wrap .i64 (z0+1)) J else J false)else L2 x0 x2 0 J)):L1 x0 x1 x2 z0 J:=mIn<|mLen 4 Aa3 x1<|mAsk 0 h dT dF (fun h=>mIx 7 Aa3 h fun a1 h2 h=>Ab3 1 h (fun _ h=>h) (fun _ h=>mFin 9 h) fun _ h=>mRet 6 h) fun h=>mFin 6 h
def K2(x0:api_Table)(x2:List api_MVD)(z0:Int)(J:Bool->Prop)(h:(if z0<(x2.length:Int)then ∃a4,lget x2 z0=some a4/\∃r6:Bool×Int,q56_.C x0 a4 r6/\(if r6.1=true then L2 x0 x2 (IntKind.wrap .i64 (z0+1)) J else J false)else J true)):L2 x0 x2 z0 J:=mIn<|mLen 4 Aa4 x2<|mAsk 0 h dT dF (fun h=>mIx 7 Aa4 h fun a4 h5 h=>mCal 1 h (fun _ h=>h) (hf:=(fun _=>Aak (Abq (Aa6 rfl (Aa6 rfl Aan))) rfl)) fun r6 _ h=>mAsk 7 h id fls (fun h=>mFin 9 h) fun h=>mRet 6 h) fun h=>mRet 6 h
def nt(x0:api_Table)(x1:List api_FD)(x2:List api_MVD)(J:Bool->Prop)(h:L1 x0 x1 x2 0 J):∃r,J r/\C x0 x1 x2 r:=mE Tryz.f15 B W res<|mFin 7 h
end q61_
namespace q62_
def B:=bd Tryz.f17
def W:=[0,1,2,3,6,7,8,9,11,12,13,15,16,17,21,30,32,33,34,35,45,47,48,49,50,60]
def res(r:Bool×Int):D×List D:=(.tup [bL r.1,iL r.2],[])
def C(x0:api_Table)(x1:List api_FD)(x2:List api_MVD)(r:Bool×Int):Prop:=Ret env 17 [.agg [tL x0.Name,.sl (x0.Attrs.map eS),.sl (x0.Rows.map Aa2)],.sl (x1.map Aa3),.sl (x2.map Aa4)] (res r).1 (res r).2
def L1(x0:api_Table)(x1:List api_FD)(x2:List api_MVD)(z0:Int)(J:Bool×Int->Prop):Prop:=Pt env 17 W B [1,1,1,0,1,0] [(0,.agg [tL x0.Name,.sl (x0.Attrs.map eS),.sl (x0.Rows.map Aa2)]),(1,.sl (x1.map Aa3)),(2,.sl (x2.map Aa4)),(3,.box [tL x0.Name,.sl (x0.Attrs.map eS),.sl (x0.Rows.map Aa2)]),(32,.sl (x1.map Aa3)),(33,iL (x1.length:Int)),(34,iL z0)] (Lv env 17 Tryz.f17 3 res J)
def L2(x0:api_Table)(x2:List api_MVD)(z0:Int)(J:Bool×Int->Prop):Prop:=Pt env 17 W B [1,1,1,1,0,1,0] [(0,.agg [tL x0.Name,.sl (x0.Attrs.map eS),.sl (x0.Rows.map Aa2)]),(2,.sl (x2.map Aa4)),(3,.box [tL x0.Name,.sl (x0.Attrs.map eS),.sl (x0.Rows.map Aa2)]),(47,.sl (x2.map Aa4)),(48,iL (x2.length:Int)),(49,iL z0)] (Lv env 17 Tryz.f17 3 res J)
def K1(x0:api_Table)(x1:List api_FD)(x2:List api_MVD)(z0:Int)(J:Bool×Int->Prop)(h:(if z0<(x1.length:Int)then ∃a3,lget x1 z0=some a3/\∃r5:Bool×Int,q77_.C x0 a3 r5/\(if r5.1=true then L1 x0 x1 x2 (IntKind.wrap .i64 (z0+1)) J else J (false,0))else L2 x0 x2 0 J)):L1 x0 x1 x2 z0 J:=mIn<|mAsk 2 h dT dF (fun h=>mIx 4 Aa3 h fun a3 h4 h=>mCal 7 h (fun _ h=>h) (hf:=(fun _=>Aak (Abq (Aa6 rfl (Aa6 rfl Aan))) rfl)) fun r5 _ h=>mAsk 7 h id fls (fun h=>mFin 8 h) fun h=>mRet 7 h) fun h=>mLen 5 Aa4 x2<|mFin 2 h
def K2(x0:api_Table)(x2:List api_MVD)(z0:Int)(J:Bool×Int->Prop)(h:(if z0<(x2.length:Int)then ∃a6,lget x2 z0=some a6/\∃r8:Bool×Int,q111_.C x0 a6 r8/\(if r8.1=true then L2 x0 x2 (IntKind.wrap .i64 (z0+1)) J else J (false,0))else J (true,0))):L2 x0 x2 z0 J:=mIn<|mAsk 2 h dT dF (fun h=>mIx 4 Aa4 h fun a6 h7 h=>mCal 7 h (fun _ h=>h) (hf:=(fun _=>Aak (Abq (Aa6 rfl (Aa6 rfl Aan))) rfl)) fun r8 _ h=>mAsk 7 h id fls (fun h=>mFin 8 h) fun h=>mRet 7 h) fun h=>mRet 7 h
def nt(x0:api_Table)(x1:List api_FD)(x2:List api_MVD)(J:Bool×Int->Prop)(h:∃r1:Int,q109_.C x0 r1/\(if r1=0 then ∃r2:Int,q110_.C (x0.Attrs.length:Int) x1 x2 r2/\(if r2=0 then L1 x0 x1 x2 0 J else J (false,r2))else J (false,r1))):∃r,J r/\C x0 x1 x2 r:=mE Tryz.f17 B W res<|mCal 7 h (fun _ h=>h) fun r1 _ h=>Abr 4 h Abm Abl (fun h=>mRet 7 h) fun h=>mLen 6 eS x0.Attrs<|mCal 2 h (fun _ h=>h) fun r2 _ h=>Abr 4 h Abm Abl (fun h=>mRet 7 h) fun h=>mLen 5 Aa3 x1<|mFin 2 h
end q62_
namespace q104_
def B:=bd Tryz.f19
def W:=[0,1,2,3,4,7,8,9,10,11,12,25]
def res(r:Bool):D×List D:=(bL r,[])
def C(x0:api_Table)(x1:List api_FD)(x2:List api_MVD)(x3:api_MVD)(r:Bool):Prop:=Ret env 19 [.agg [tL x0.Name,.sl (x0.Attrs.map eS),.sl (x0.Rows.map Aa2)],.sl (x1.map Aa3),.sl (x2.map Aa4),.agg [uL x3.Lhs,uL x3.Rhs]] (res r).1 (res r).2
def nt(x0:api_Table)(x1:List api_FD)(x2:List api_MVD)(x3:api_MVD)(J:Bool->Prop)(h:∃r1:Bool×Int,q62_.C x0 x1 x2 r1/\(if r1.2=0 then(if r1.1=true then ∃r2:Bool×Int,q111_.C x0 x3 r2/\(if r2.2=0 then J (not r2.1)else J false)else J false)else J false)):∃r,J r/\C x0 x1 x2 x3 r:=mE Tryz.f19 B W res<|mCal 9 h (fun _ h=>h) (hf:=(fun _=>Aak (Abq (Aa6 rfl (Aa6 rfl Aan))) rfl)) fun r1 _ h=>Abr 8 h Abm Abl (fun h=>mRet 9 h) fun h=>mAsk 1 h id fls (fun h=>mCal 8 h (fun _ h=>h) (hf:=(fun _=>Aak (Abq (Aa6 rfl (Aa6 rfl Aan))) rfl)) fun r2 _ h=>mAsk 8 h Abd Abc (fun h=>mRet 6 h) fun h=>mRet 6 h) fun h=>mRet 7 h
end q104_
namespace q25_
def B:=bd Tryz.f18
def W:=[0,1,2,3,6,7,8,9,13,22]
def res(r:Bool×Int):D×List D:=(.tup [bL r.1,iL r.2],[])
def C(x0:api_Table)(x1:List api_FD)(x2:List api_MVD)(r:Bool×Int):Prop:=Ret env 18 [.agg [tL x0.Name,.sl (x0.Attrs.map eS),.sl (x0.Rows.map Aa2)],.sl (x1.map Aa3),.sl (x2.map Aa4)] (res r).1 (res r).2
def nt(x0:api_Table)(x1:List api_FD)(x2:List api_MVD)(J:Bool×Int->Prop)(h:∃r1:Int,q50_.C x0 r1/\(if r1=0 then ∃r2:Int,q54_.C (x0.Attrs.length:Int) x1 x2 r2/\(if r2=0 then ∃r3:Bool,q61_.C x0 x1 x2 r3/\J (r3,0)else J (false,r2))else J (false,r1))):∃r,J r/\C x0 x1 x2 r:=mE Tryz.f18 B W res<|mCal 7 h (fun _ h=>h) fun r1 _ h=>Abr 4 h Abm Abl (fun h=>mRet 7 h) fun h=>mLen 6 eS x0.Attrs<|mCal 2 h (fun _ h=>h) fun r2 _ h=>Abr 4 h Abm Abl (fun h=>mRet 7 h) fun h=>mCal 7 h (fun _ h=>h) fun r3 _ h=>mRet 3 h
end q25_
namespace q63_
def B:=bd Tryz.f20
def W:=[0,1,2,3,4,7,8,9,10,11,12,36]
def res(r:Bool):D×List D:=(bL r,[])
def C(x0:api_Table)(x1:List api_FD)(x2:List api_MVD)(x3:api_MVD)(r:Bool):Prop:=Ret env 20 [.agg [tL x0.Name,.sl (x0.Attrs.map eS),.sl (x0.Rows.map Aa2)],.sl (x1.map Aa3),.sl (x2.map Aa4),.agg [uL x3.Lhs,uL x3.Rhs]] (res r).1 (res r).2
def nt(x0:api_Table)(x1:List api_FD)(x2:List api_MVD)(x3:api_MVD)(J:Bool->Prop)(h:∃r1:Bool×Int,q25_.C x0 x1 x2 r1/\(if r1.2=0 then(if r1.1=true then ∃r2:Bool,q46_.C (x0.Attrs.length:Int) x3.Lhs x3.Rhs r2/\(if r2=true then ∃r3:Bool×Int,q56_.C x0 x3 r3/\J (not r3.1)else J false)else J false)else J false)):∃r,J r/\C x0 x1 x2 x3 r:=mE Tryz.f20 B W res<|mCal 9 h (fun _ h=>h) (hf:=(fun _=>Aak (Abq (Aa6 rfl (Aa6 rfl Aan))) rfl)) fun r1 _ h=>Abr 8 h Abm Abl (fun h=>mRet 20 h) fun h=>mAsk 1 h id fls (fun h=>mLen 5 eS x0.Attrs<|Ab3 4 h (fun _ h=>h) (fun _ h=>mCal 8 h (fun _ h=>h) (hf:=(fun _=>Aak (Abq (Aa6 rfl (Aa6 rfl Aan))) rfl)) fun r3 _ h=>mRet 11 h) fun _ h=>mRet 7 h) fun h=>mRet 18 h
end q63_
namespace q35_
def B:=bd Tryz.f74
def W:=[0,1,4,10,1000000]
def res(r:Bool×drossref13_Two):D×List D:=(bL r.1,[.box [.own (r.2.Rows.map (eI .u32))]])
def C(x1:Int)(k0_0:List Int)(r:Bool×drossref13_Two):Prop:=Ret env 74 [.box [.own (k0_0.map (eI .u32))],uL x1] (res r).1 (res r).2
def nt(x1:Int)(k0_0:List Int)(J:Bool×drossref13_Two->Prop)(h:∃r1:Bool,q91_.C k0_0 x1 r1/\(if r1=true then J (false,(⟨k0_0⟩:drossref13_Two))else(k0_0.length+1)*4<=140737488355328/\J (true,(⟨(k0_0++[x1])⟩:drossref13_Two)))):∃r,J r/\C x1 k0_0 r:=mE Tryz.f74 B W res<|Ab3 9 h (fun _ h=>h) (hr:=by exact(Abs (Aba (s:=1000000) (ps:=[(0,0)]) (l:=k0_0) (e:=(eI .u32)) (e':=(eI .u32)) (fun _=>rfl) (by kernel_rfl)) (pr_k Ad2))) (fun _ h=>mRet 5 h) fun _ h=>mApp 11 (eI .u32) k0_0 ([x1]) h fun h=>mRet 7 h
end q35_
namespace q22_
def B:=bd Tryz.f104
def W:=[0,1,4,5,16,1000000]
def res(r:drossref13_Two):D×List D:=(.tup [],[.box [.own (r.Rows.map (eI .u32))]])
def C(x1:Int)(k0_0:List Int)(r:drossref13_Two):Prop:=Ret env 104 [.box [.own (k0_0.map (eI .u32))],uL x1] (res r).1 (res r).2
def L1(x1:Int)(k0_0:List Int)(z0:Int)(z1:List Int)(J:drossref13_Two->Prop):Prop:=Pt env 104 W B [1,1,1,0] [(0,.alias 1000000 []),(1,uL x1),(4,.own (k0_0.map (eI .u32))),(5,iL z0),(1000000,.box [.own (z1.map (eI .u32))])] (Lv env 104 Tryz.f104 2 res J)
def K1(x1:Int)(k0_0:List Int)(z0:Int)(z1:List Int)(J:drossref13_Two->Prop)(h:(if z0<(k0_0.length:Int)then ∃a1,lget k0_0 z0=some a1/\∃r3:Bool×drossref13_Two,q35_.C (Aae .u32 a1 x1) z1 r3/\L1 x1 k0_0 (IntKind.wrap .i64 (z0+1)) r3.2.Rows J else J (⟨z1⟩:drossref13_Two))):L1 x1 k0_0 z0 z1 J:=mIn<|mLen 4 (eI .u32) k0_0<|mAsk 0 h dT dF (fun h=>mIy 7 (eI .u32) h fun a1 h2 h=>mLd 0 (eI .u32) h2<|mCal 2 h (fun _ h=>h) fun r3 _ h=>mFin 6 h) fun h=>mRet 2 h
def nt(x1:Int)(k0_0:List Int)(J:drossref13_Two->Prop)(h:L1 x1 k0_0 0 ([]) J):∃r,J r/\C x1 k0_0 r:=mE Tryz.f104 B W res<|mFin 16 h
end q22_
namespace q47_
def B:=bd Tryz.f75
def W:=[0,1,3,4,5,6,7,14,23,52,1000000]
def res(r:Bool×drossref13_Two):D×List D:=(bL r.1,[.box [.own (r.2.Rows.map (eI .u32))]])
def C(x1:api_FD)(k0_0:List Int)(r:Bool×drossref13_Two):Prop:=Ret env 75 [.box [.own (k0_0.map (eI .u32))],.agg [uL x1.Lhs,uL x1.Rhs]] (res r).1 (res r).2
def L1(x1:api_FD)(z0:Int)(k0_0:List Int)(J:Bool×drossref13_Two->Prop):Prop:=Pt env 75 W B [1,0,1,0] [(0,.alias 1000000 []),(1,.agg [uL x1.Lhs,uL x1.Rhs]),(3,.box [uL x1.Lhs,uL x1.Rhs]),(5,iL z0),(1000000,.box [.own (k0_0.map (eI .u32))])] (Lv env 75 Tryz.f75 2 res J)
def L2(x1:api_FD)(z0 z1:Int)(k0_0:List Int)(J:Bool×drossref13_Two->Prop):Prop:=Pt env 75 W B [1,0,1,0,0,1,0,0,1,0] [(0,.alias 1000000 []),(1,.agg [uL x1.Lhs,uL x1.Rhs]),(3,.box [uL x1.Lhs,uL x1.Rhs]),(5,iL z0),(6,iL z1),(1000000,.box [.own (k0_0.map (eI .u32))])] (Lv env 75 Tryz.f75 2 res J)
def L3(x1:api_FD)(z0 z1:Int)(k0_0:List Int)(J:Bool×drossref13_Two->Prop):Prop:=Pt env 75 W B [1,0,1,0,0,1,0,0,1,0,0,1,1] [(0,.alias 1000000 []),(1,.agg [uL x1.Lhs,uL x1.Rhs]),(3,.box [uL x1.Lhs,uL x1.Rhs]),(5,iL z0),(6,iL z1),(1000000,.box [.own (k0_0.map (eI .u32))])] (Lv env 75 Tryz.f75 2 res J)
def K1(x1:api_FD)(z0:Int)(k0_0:List Int)(J:Bool×drossref13_Two->Prop)(h:(if z0<(k0_0.length:Int)then L2 x1 z0 0 k0_0 J else J (false,(⟨k0_0⟩:drossref13_Two)))):L1 x1 z0 k0_0 J:=mIn<|mLen 7 (eI .u32) k0_0<|mAsk 0 h dT dF (fun h=>mFin 6 h) fun h=>mRet 6 h
def K2(x1:api_FD)(z0 z1:Int)(k0_0:List Int)(J:Bool×drossref13_Two->Prop)(h:(if z1<(k0_0.length:Int)then ∃a1,lget k0_0 z0=some a1/\∃a3,lget k0_0 z1=some a3/\(if(bAnd .u32 (bXor .u32 a1 a3) x1.Lhs)=0 then(if(bAnd .u32 (bXor .u32 a1 a3) x1.Rhs)=0 then L3 x1 z0 z1 k0_0 J else ∃r5:drossref13_Two,q22_.C (bAnd .u32 (bXor .u32 a1 a3) x1.Rhs) k0_0 r5/\J (true,r5))else L3 x1 z0 z1 k0_0 J)else L1 x1 (IntKind.wrap .i64 (z0+1)) k0_0 J)):L2 x1 z0 z1 k0_0 J:=mIn<|mLen 7 (eI .u32) k0_0<|mAsk 0 h dT dF (fun h=>mIy 9 (eI .u32) h fun a1 h2 h=>mLd 0 (eI .u32) h2<|mIy 5 (eI .u32) h fun a3 h4 h=>mLd 0 (eI .u32) h4<|mAsk 8 h Abd Abc (fun h=>Abr 5 h Abm Abl (fun h=>mCal 9 h (fun _ h=>h) (hf:=(fun _=>Ahn)) fun r5 _ h=>mRet 4 h) fun h=>mFin 4 h) fun h=>mFin 10 h) fun h=>mFin 8 h
def K3(x1:api_FD)(z0 z1:Int)(k0_0:List Int)(J:Bool×drossref13_Two->Prop)(h:L2 x1 z0 (IntKind.wrap .i64 (z1+1)) k0_0 J):L3 x1 z0 z1 k0_0 J:=mIn<|mFin 5 h
def nt(x1:api_FD)(k0_0:List Int)(J:Bool×drossref13_Two->Prop)(h:L1 x1 0 k0_0 J):∃r,J r/\C x1 k0_0 r:=mE Tryz.f75 B W res<|mFin 7 h
end q47_
namespace q36_
def B:=bd Tryz.f76
def W:=[0,1,3,4,5,6,7,14,23,75,1000000]
def res(r:Bool×drossref13_Two):D×List D:=(bL r.1,[.box [.own (r.2.Rows.map (eI .u32))]])
def C(x1:api_MVD)(k0_0:List Int)(r:Bool×drossref13_Two):Prop:=Ret env 76 [.box [.own (k0_0.map (eI .u32))],.agg [uL x1.Lhs,uL x1.Rhs]] (res r).1 (res r).2
def L1(x1:api_MVD)(z0:Bool)(z1:Int)(k0_0:List Int)(J:Bool×drossref13_Two->Prop):Prop:=Pt env 76 W B [1,1,0,1,0] [(0,.alias 1000000 []),(1,.agg [uL x1.Lhs,uL x1.Rhs]),(3,.box [uL x1.Lhs,uL x1.Rhs]),(5,bL z0),(6,iL z1),(1000000,.box [.own (k0_0.map (eI .u32))])] (Lv env 76 Tryz.f76 2 res J)
def L2(x1:api_MVD)(z0:Bool)(z1 z2:Int)(k0_0:List Int)(J:Bool×drossref13_Two->Prop):Prop:=Pt env 76 W B [1,1,0,1,0,0,1,0,0,1,0] [(0,.alias 1000000 []),(1,.agg [uL x1.Lhs,uL x1.Rhs]),(3,.box [uL x1.Lhs,uL x1.Rhs]),(5,bL z0),(6,iL z1),(7,iL z2),(1000000,.box [.own (k0_0.map (eI .u32))])] (Lv env 76 Tryz.f76 2 res J)
def L3(x1:api_MVD)(z0:Bool)(z1 z2:Int)(z3:List Int)(J:Bool×drossref13_Two->Prop):Prop:=Pt env 76 W B [1,1,0,1,0,0,1,0,0,1,0,0,1,1] [(0,.alias 1000000 []),(1,.agg [uL x1.Lhs,uL x1.Rhs]),(3,.box [uL x1.Lhs,uL x1.Rhs]),(5,bL z0),(6,iL z1),(7,iL z2),(1000000,.box [.own (z3.map (eI .u32))])] (Lv env 76 Tryz.f76 2 res J)
def K1(x1:api_MVD)(z0:Bool)(z1:Int)(k0_0:List Int)(J:Bool×drossref13_Two->Prop)(h:(if z1<(k0_0.length:Int)then L2 x1 z0 z1 0 k0_0 J else J (z0,(⟨k0_0⟩:drossref13_Two)))):L1 x1 z0 z1 k0_0 J:=mIn<|mLen 7 (eI .u32) k0_0<|mAsk 0 h dT dF (fun h=>mFin 6 h) fun h=>mRet 7 h
def K2(x1:api_MVD)(z0:Bool)(z1 z2:Int)(k0_0:List Int)(J:Bool×drossref13_Two->Prop)(h:(if z2<(k0_0.length:Int)then ∃a1,lget k0_0 z1=some a1/\∃a3,lget k0_0 z2=some a3/\(if(bAnd .u32 (bXor .u32 a1 a3) x1.Lhs)=0 then ∃r5:Bool×drossref13_Two,q35_.C (bOr .u32 (bAnd .u32 a1 (bOr .u32 x1.Lhs x1.Rhs)) (Aae .u32 a3 (bOr .u32 x1.Lhs x1.Rhs))) k0_0 r5/\(if r5.1=true then L3 x1 true z1 z2 r5.2.Rows J else L3 x1 z0 z1 z2 r5.2.Rows J)else L3 x1 z0 z1 z2 k0_0 J)else L1 x1 z0 (IntKind.wrap .i64 (z1+1)) k0_0 J)):L2 x1 z0 z1 z2 k0_0 J:=mIn<|mLen 7 (eI .u32) k0_0<|mAsk 0 h dT dF (fun h=>mIy 9 (eI .u32) h fun a1 h2 h=>mLd 0 (eI .u32) h2<|mIy 5 (eI .u32) h fun a3 h4 h=>mLd 0 (eI .u32) h4<|mAsk 4 h Abd Abc (fun h=>mIyf 7 (eI .u32) h2<|mLd 0 (eI .u32) h2<|mIyf 11 (eI .u32) h4<|mLd 0 (eI .u32) h4<|mCal 7 h (fun _ h=>h) fun r5 _ h=>mAsk 0 h id fls (fun h=>mFin 5 h) fun h=>mFin 3 h) fun h=>mFin 34 h) fun h=>mFin 8 h
def K3(x1:api_MVD)(z0:Bool)(z1 z2:Int)(z3:List Int)(J:Bool×drossref13_Two->Prop)(h:L2 x1 z0 z1 (IntKind.wrap .i64 (z2+1)) z3 J):L3 x1 z0 z1 z2 z3 J:=mIn<|mFin 5 h
def nt(x1:api_MVD)(k0_0:List Int)(J:Bool×drossref13_Two->Prop)(h:L1 x1 false 0 k0_0 J):∃r,J r/\C x1 k0_0 r:=mE Tryz.f76 B W res<|mFin 10 h
end q36_
namespace q30_
def B:=bd Tryz.f36
def W:=[0,1,2,3,4,9]
def res(r:Int):D×List D:=(uL r,[])
def C(x0:drossref13_Two)(r:Int):Prop:=Ret env 36 [.agg [.sl (x0.Rows.map (eI .u32))]] (res r).1 (res r).2
def L1(x0:drossref13_Two)(z0 z1:Int)(J:Int->Prop):Prop:=Pt env 36 W B [1,1,0,1,0] [(0,.agg [.sl (x0.Rows.map (eI .u32))]),(1,.box [.sl (x0.Rows.map (eI .u32))]),(3,uL z0),(4,iL z1)] (Lv env 36 Tryz.f36 1 res J)
def K1(x0:drossref13_Two)(z0 z1:Int)(J:Int->Prop)(h:(if z1<(x0.Rows.length:Int)then ∃a1,lget x0.Rows z1=some a1/\L1 x0 (bOr .u32 z0 a1) (IntKind.wrap .i64 (z1+1)) J else J z0)):L1 x0 z0 z1 J:=mIn<|mLen 5 (eI .u32) x0.Rows<|mAsk 0 h dT dF (fun h=>mIx 8 (eI .u32) h fun a1 h2 h=>mFin 9 h) fun h=>mRet 7 h
def nt(x0:drossref13_Two)(J:Int->Prop)(h:L1 x0 0 0 J):∃r,J r/\C x0 r:=mE Tryz.f36 B W res<|mFin 10 h
end q30_
namespace q64_
def B:=bd Tryz.f35
def W:=[0,1,2,3,8,9,10,11,12,20,24,31,35,42]
def res(r:drossref13_Two):D×List D:=(.agg [.own (r.Rows.map (eI .u32))],[])
def C(x0:Int)(x1:List api_FD)(x2:List api_MVD)(x3:Int)(r:drossref13_Two):Prop:=Ret env 35 [iL x0,.sl (x1.map Aa3),.sl (x2.map Aa4),uL x3] (res r).1 (res r).2
def L1(x1:List api_FD)(x2:List api_MVD)(r2:Bool×drossref13_Two)(z0:Bool)(J:drossref13_Two->Prop):Prop:=Pt env 35 W B [1,1,1,0,1,0] [(1,.sl (x1.map Aa3)),(2,.sl (x2.map Aa4)),(8,.box [.own []]),(9,.box [.own (r2.2.Rows.map (eI .u32))]),(10,bL z0)] (Lv env 35 Tryz.f35 4 res J)
def L2(x1:List api_FD)(x2:List api_MVD)(r2:Bool×drossref13_Two)(z0:Bool)(z1:Int)(J:drossref13_Two->Prop):Prop:=Pt env 35 W B [1,1,1,0,1,0,0,1,0,1,0,1,0] [(1,.sl (x1.map Aa3)),(2,.sl (x2.map Aa4)),(8,.box [.own []]),(9,.box [.own (r2.2.Rows.map (eI .u32))]),(10,bL z0),(11,iL z1)] (Lv env 35 Tryz.f35 4 res J)
def L3(x1:List api_FD)(x2:List api_MVD)(r2:Bool×drossref13_Two)(z0:Bool)(z1:Int)(J:drossref13_Two->Prop):Prop:=Pt env 35 W B [1,1,1,0,1,0,0,1,0,1,0,1,0,0,1,0,0,0] [(1,.sl (x1.map Aa3)),(2,.sl (x2.map Aa4)),(8,.box [.own []]),(9,.box [.own (r2.2.Rows.map (eI .u32))]),(10,bL z0),(11,iL z1)] (Lv env 35 Tryz.f35 4 res J)
def L4(x1:List api_FD)(x2:List api_MVD)(r2:Bool×drossref13_Two)(z0:Bool)(z1:Int)(J:drossref13_Two->Prop):Prop:=Pt env 35 W B [1,1,1,0,1,0,0,1,0,1,1,1,0] [(1,.sl (x1.map Aa3)),(2,.sl (x2.map Aa4)),(8,.box [.own []]),(9,.box [.own (r2.2.Rows.map (eI .u32))]),(10,bL z0),(12,iL z1)] (Lv env 35 Tryz.f35 4 res J)
def L5(x1:List api_FD)(x2:List api_MVD)(r8:Bool×drossref13_Two)(z0:Bool)(z1:Int)(J:drossref13_Two->Prop):Prop:=Pt env 35 W B [1,1,1,0,1,0,0,1,0,1,1,1,0,0,1,1] [(1,.sl (x1.map Aa3)),(2,.sl (x2.map Aa4)),(8,.box [.own []]),(9,.box [.own (r8.2.Rows.map (eI .u32))]),(10,bL z0),(12,iL z1)] (Lv env 35 Tryz.f35 4 res J)
def K1(x1:List api_FD)(x2:List api_MVD)(r2:Bool×drossref13_Two)(z0:Bool)(J:drossref13_Two->Prop)(h:(if z0=true then L2 x1 x2 r2 false 0 J else J r2.2)):L1 x1 x2 r2 z0 J:=mIn<|mAsk 2 h id fls (fun h=>mFin 9 h) fun h=>mRet 7 h
def K2(x1:List api_FD)(x2:List api_MVD)(r2:Bool×drossref13_Two)(z0:Bool)(z1:Int)(J:drossref13_Two->Prop)(h:(if z1<(x1.length:Int)then L3 x1 x2 r2 z0 z1 J else L4 x1 x2 r2 z0 0 J)):L2 x1 x2 r2 z0 z1 J:=mIn<|mLen 4 Aa3 x1<|mAsk 0 h dT dF (fun h=>mFin 3 h) fun h=>mFin 6 h
def K3(x1:List api_FD)(x2:List api_MVD)(r2:Bool×drossref13_Two)(z0:Bool)(z1:Int)(J:drossref13_Two->Prop)(h:∃a3,lget x1 z1=some a3/\∃r5:Bool×drossref13_Two,q47_.C a3 r2.2.Rows r5/\(if r5.1=true then L3 x1 x2 r5 true z1 J else L2 x1 x2 r5 z0 (IntKind.wrap .i64 (z1+1)) J)):L3 x1 x2 r2 z0 z1 J:=mIn<|mIx 4 Aa3 h fun a3 h4 h=>mCal 1 h (fun _ h=>h) fun r5 _ h=>mCon 1 h id fls (fun h=>mFin 4 h) fun h=>mFin 6 h
def K4(x1:List api_FD)(x2:List api_MVD)(r2:Bool×drossref13_Two)(z0:Bool)(z1:Int)(J:drossref13_Two->Prop)(h:(if z1<(x2.length:Int)then ∃a6,lget x2 z1=some a6/\∃r8:Bool×drossref13_Two,q36_.C a6 r2.2.Rows r8/\(if r8.1=true then L5 x1 x2 r8 true z1 J else L5 x1 x2 r8 z0 z1 J)else L1 x1 x2 r2 z0 J)):L4 x1 x2 r2 z0 z1 J:=mIn<|mLen 4 Aa4 x2<|mAsk 0 h dT dF (fun h=>mIx 6 Aa4 h fun a6 h7 h=>mCal 1 h (fun _ h=>h) fun r8 _ h=>mCon 1 h id fls (fun h=>mFin 3 h) fun h=>mFin 1 h) fun h=>mFin 3 h
def K5(x1:List api_FD)(x2:List api_MVD)(r8:Bool×drossref13_Two)(z0:Bool)(z1:Int)(J:drossref13_Two->Prop)(h:L4 x1 x2 r8 z0 (IntKind.wrap .i64 (z1+1)) J):L5 x1 x2 r8 z0 z1 J:=mIn<|mFin 5 h
def nt(x0:Int)(x1:List api_FD)(x2:List api_MVD)(x3:Int)(J:drossref13_Two->Prop)(h:∃r1:Int,q70_.C x0 r1/\∃r2:Bool×drossref13_Two,q35_.C (Aae .u32 r1 x3) ([0]) r2/\L1 x1 x2 r2 true J):∃r,J r/\C x0 x1 x2 x3 r:=mE Tryz.f35 B W res<|mCal 11 h (fun _ h=>h) fun r1 _ h=>mCal 2 h (fun _ h=>h) fun r2 _ h=>mFin 4 h
end q64_
namespace q105_
def res(r:List Int):D×List D:=(.sl (r.map (eI .u32)),[])
def C(x0:Int)(x1:List api_MVD)(x2:Int)(r:List Int):Prop:=Ret env 91 [iL x0,.sl (x1.map Aa4),uL x2] (res r).1 (res r).2
end q105_
namespace q119_
def B:=bd Tryz.f92
def W:=[0,1,4,5,7,9,12,13,14,15,20,21,22,23]
def res(r:List api_MVD):D×List D:=(.own (r.map Aa4),[])
def C(x0:List api_FD)(x1 r:List api_MVD):Prop:=Ret env 92 [.sl (x0.map Aa3),.sl (x1.map Aa4)] (res r).1 (res r).2
def L1(x0:List api_FD)(x1:List api_MVD)(z0:Int)(J:List api_MVD->Prop):Prop:=Pt env 92 W B [1,1,0,1,0] [(0,.sl (x0.map Aa3)),(5,.own (x1.map Aa4)),(12,.sl (x0.map Aa3)),(13,iL (x0.length:Int)),(14,iL z0)] (Lv env 92 Tryz.f92 2 res J)
def L2(x0:List api_FD)(x1:List api_MVD)(a2:api_FD)(z0:Int)(r4:List Int)(z1:Int)(J:List api_MVD->Prop):Prop:=Pt env 92 W B [1,1,0,1,0,0,1,1,0,0,1,1,0] [(0,.sl (x0.map Aa3)),(5,.own (x1.map Aa4)),(7,.box [uL a2.Lhs,uL a2.Rhs]),(12,.sl (x0.map Aa3)),(13,iL (x0.length:Int)),(14,iL z0),(20,.own (r4.map (eI .i64))),(21,iL (r4.length:Int)),(22,iL z1)] (Lv env 92 Tryz.f92 2 res J)
def K1(x0:List api_FD)(x1:List api_MVD)(z0:Int)(J:List api_MVD->Prop)(h:(if z0<(x0.length:Int)then ∃a2,lget x0 z0=some a2/\∃r4:List Int,q69_.C a2.Rhs r4/\L2 x0 x1 a2 z0 r4 0 J else J x1)):L1 x0 x1 z0 J:=mIn<|mAsk 2 h dT dF (fun h=>mIx 4 Aa3 h fun a2 h3 h=>mCal 7 h (fun _ h=>h) (hf:=(fun _=>Aak (Aaj (e:=(eI .i64)) (fun _=>rfl)) rfl)) fun r4 _ h=>mLen 0 (eI .i64) r4<|mFin 2 h) fun h=>mRet 7 h
def K2(x0:List api_FD)(x1:List api_MVD)(a2:api_FD)(z0:Int)(r4:List Int)(z1:Int)(J:List api_MVD->Prop)(h:(if z1<(r4.length:Int)then ∃a5,lget r4 z1=some a5/\0<=a5/\(x1.length+1)*8<=140737488355328/\L2 x0 (x1++[(⟨a2.Lhs,(shlw .u32 1 a5)⟩:api_MVD)]) a2 z0 r4 (IntKind.wrap .i64 (z1+1)) J else L1 x0 x1 (IntKind.wrap .i64 (z0+1)) J)):L2 x0 x1 a2 z0 r4 z1 J:=mIn<|mAsk 2 h dT dF (fun h=>mIy 4 (eI .i64) h fun a5 h6 h=>mLd 0 (eI .i64) h6<|h.elim fun h7 h=>mBi 7 (Aqw (t:=34) (q:=.u32) (q':=.i64) (i1:=1) h7)<|mApp 2 Aa4 x1 ([(⟨a2.Lhs,(shlw .u32 1 a5)⟩:api_MVD)]) h fun h=>mFin 6 h) fun h=>mFin 7 h
def nt(x0:List api_FD)(x1:List api_MVD)(J:List api_MVD->Prop)(h:x1.length*8<=140737488355328/\L1 x0 x1 0 J):∃r,J r/\C x0 x1 r:=mE Tryz.f92 B W res<|h.elim fun h1 h=>Aoa 5 (show Ret env 120 [.sl (x1.map Aa4)] (.own (x1.map Aa4)) []from Amd (k:=2) (b:=8) (e:=Aa4) (l:=x1) (by kernel_rfl) (fun _=>rfl) h1) (hf:=(Aak (Aaj (e:=Aa4) (fun _=>rfl)) rfl))<|mLen 4 Aa3 x0<|mFin 2 h
end q119_
namespace q79_
def B:=bd Tryz.f59
def W:=[0,1,4,5,6,7,13]
def res(r:List api_FD):D×List D:=(.own (r.map Aa3),[])
def C(x0:Int)(x1:List drossref09_Dep)(r:List api_FD):Prop:=Ret env 59 [iL x0,.sl (x1.map Aac)] (res r).1 (res r).2
def L1(x1:List drossref09_Dep)(r1:Int)(z0:List api_FD)(z1:Int)(J:List api_FD->Prop):Prop:=Pt env 59 W B [1,1,1,0,1,0] [(1,.sl (x1.map Aac)),(5,uL r1),(6,.own (z0.map Aa3)),(7,iL z1)] (Lv env 59 Tryz.f59 2 res J)
def K1(x1:List drossref09_Dep)(r1:Int)(z0:List api_FD)(z1:Int)(J:List api_FD->Prop)(h:(if z1<(x1.length:Int)then ∃a2,lget x1 z1=some a2/\(z0.length+1)*8<=140737488355328/\L1 x1 r1 (z0++[(⟨(bAnd .u32 (IntKind.wrap .u32 a2.L) r1),(bAnd .u32 (IntKind.wrap .u32 a2.R) r1)⟩:api_FD)]) (IntKind.wrap .i64 (z1+1)) J else J z0)):L1 x1 r1 z0 z1 J:=mIn<|mLen 4 Aac x1<|mAsk 0 h dT dF (fun h=>mIx 7 Aac h fun a2 h3 h=>mIxf 7 Aac h3<|mApp 7 Aa3 z0 ([(⟨(bAnd .u32 (IntKind.wrap .u32 a2.L) r1),(bAnd .u32 (IntKind.wrap .u32 a2.R) r1)⟩:api_FD)]) h fun h=>mFin 7 h) fun h=>mRet 7 h
def nt(x0:Int)(x1:List drossref09_Dep)(J:List api_FD->Prop)(h:∃r1:Int,q70_.C x0 r1/\L1 x1 r1 ([]) 0 J):∃r,J r/\C x0 x1 r:=mE Tryz.f59 B W res<|mCal 5 h (fun _ h=>h) fun r1 _ h=>mFin 8 h
end q79_
namespace q95_
def B:=bd Tryz.f26
def W:=[0,1,2,3,4,5]
def res(r:Int×List api_FD×Bool):D×List D:=(.tup [iL r.1,.sl (r.2.1.map Aa3),bL r.2.2],[])
def C(x0:drossref09_Deps)(r:Int×List api_FD×Bool):Prop:=Ret env 26 [.agg [.lit (.int .u8 x0.N),.sl (x0.L.map Aac)]] (res r).1 (res r).2
def nt(x0:drossref09_Deps)(J:Int×List api_FD×Bool->Prop)(h:∃r1:List api_FD,q79_.C (IntKind.wrap .i64 (Int.tmod x0.N 7)) x0.L r1/\J ((IntKind.wrap .i64 (Int.tmod x0.N 7)),r1,(decide ((x0.L.length:Int)<=6)))):∃r,J r/\C x0 r:=mE Tryz.f26 B W res<|mLoE 18 h (fun _ h=>h) (fun(r1:List api_FD)=>Aqz (l:=r1) (e:=Aa3) (e':=Aa3) rfl (fun _=>rfl)) (hf:=(fun _=>Ao9 (Aaj (e:=Aa3) (fun _=>rfl)))) fun r1 _ h=>mLen 2 Aac x0.L<|mRet 5 h
end q95_
namespace q37_
def B:=bd Tryz.f22
def W:=[0,1,2,3,4,10,11]
def res(r:Bool):D×List D:=(bL r,[])
def C(x0:Int)(x1:List api_FD)(x2:List api_MVD)(x3 x4:Int)(r:Bool):Prop:=Ret env 22 [iL x0,.sl (x1.map Aa3),.sl (x2.map Aa4),uL x3,uL x4] (res r).1 (res r).2
def nt(x0:Int)(x1:List api_FD)(x2:List api_MVD)(x3 x4:Int)(J:Bool->Prop)(h:∃r1:drossref13_Two,q64_.C x0 x1 x2 x3 r1/\∃r2:Int,q30_.C r1 r2/\∃r3:Bool,q91_.C r1.Rows (Aae .u32 r2 (bOr .u32 x3 x4)) r3/\J r3):∃r,J r/\C x0 x1 x2 x3 x4 r:=mE Tryz.f22 B W res<|mCal 8 h (fun _ h=>h) (hf:=(fun _=>Aak (Ag8 (Aa6 (Aaj (e:=(eI .u32)) (fun _=>rfl)) Aan)) rfl)) fun r1 _ h=>mLo 7 h (fun _ h=>h) (hr:=by exact(Abs (Aj8 (Abo (d:=.alias 11 [(0,0)]) (d':=.sl (r1.Rows.map (eI .u32))) (Aba (s:=11) (ps:=[(0,0)]) (l:=r1.Rows) (e:=(eI .u32)) (e':=(eI .u32)) (fun _=>rfl) (by kernel_rfl)) Agi)) Ad2)) fun r2 _ h=>mCal 4 h (fun _ h=>h) (hr:=by exact(Abs (Aba (s:=11) (ps:=[(0,0)]) (l:=r1.Rows) (e:=(eI .u32)) (e':=(eI .u32)) (fun _=>rfl) (by kernel_rfl)) (pr_k Ad2))) fun r3 _ h=>mRet 2 h
end q37_
namespace q112_
def B:=bd Tryz.f69
def W:=[0,1,2,3,8,9,15,20]
def res(r:Int):D×List D:=(iL r,[])
def C(x0:Int)(x1:List api_FD)(x2:List api_MVD)(x3 r:Int):Prop:=Ret env 69 [iL x0,.sl (x1.map Aa3),.sl (x2.map Aa4),uL x3] (res r).1 (res r).2
def nt(x0:Int)(x1:List api_FD)(x2:List api_MVD)(x3:Int)(J:Int->Prop)(h:∃r1:Int,q110_.C x0 x1 x2 r1/\(if r1=0 then 0<=x0/\(if(shrw .u32 x3 x0)=0 then J 0 else J 1)else J r1)):∃r,J r/\C x0 x1 x2 x3 r:=mE Tryz.f69 B W res<|mCal 7 h (fun _ h=>h) fun r1 _ h=>Abr 4 h Abm Abl (fun h=>mRet 6 h) fun h=>h.elim fun h2 h=>mBi 6 (Ahs (t:=34) (q:=.u32) (q':=.i64) (i1:=x3) h2)<|Abr 0 h Abm Abl (fun h=>mRet 5 h) fun h=>mRet 6 h
end q112_
namespace q96_
def B:=bd Tryz.f102
def W:=[0,1,2,3]
def res(r:Bool):D×List D:=(bL r,[])
def C(x0:api_FD)(k1_0:Int)(r:Bool):Prop:=Ret env 102 [.agg [uL x0.Lhs,uL x0.Rhs],.ref [uL k1_0]] (res r).1 (res r).2
def nt(x0:api_FD)(k1_0:Int)(J:Bool->Prop)(h:J ((bAnd .u32 (Aae .u32 x0.Rhs x0.Lhs) k1_0)!=0)):∃r,J r/\C x0 k1_0 r:=mE Tryz.f102 B W res<|mRet 15 h
end q96_
namespace q12_
def B:=bd Tryz.f130
def W:=[0,1,4,5,7,8,9,16]
def res(r:Int):D×List D:=(iL r,[])
def C(x0:List api_FD)(k1_0 r:Int):Prop:=Ret env 130 [.sl (x0.map Aa3),.fn 102 [.ref [uL k1_0]]] (res r).1 (res r).2
def L1(x0:List api_FD)(k1_0 z0:Int)(J:Int->Prop):Prop:=Pt env 130 W B [1,0,1,0] [(0,.sl (x0.map Aa3)),(1,.fn 102 [.ref [uL k1_0]]),(7,iL (x0.length:Int)),(8,iL z0)] (Lv env 130 Tryz.f130 2 res J)
def K1(x0:List api_FD)(k1_0 z0:Int)(J:Int->Prop)(h:(if z0<(x0.length:Int)then ∃a1,lget x0 z0=some a1/\∃r3:Bool,q96_.C a1 k1_0 r3/\(if r3=true then J z0 else L1 x0 k1_0 (IntKind.wrap .i64 (z0+1)) J)else J (-1))):L1 x0 k1_0 z0 J:=mIn<|mAsk 2 h dT dF (fun h=>mIx 11 Aa3 h fun a1 h2 h=>Ab3 1 h (fun _ h=>h) (fun _ h=>mRet 6 h) fun _ h=>mFin 7 h) fun h=>mRet 6 h
def nt(x0:List api_FD)(k1_0:Int)(J:Int->Prop)(h:L1 x0 k1_0 0 J):∃r,J r/\C x0 k1_0 r:=mE Tryz.f130 B W res<|mLen 5 Aa3 x0<|mFin 2 h
end q12_
namespace q8_
def B:=bd Tryz.f101
def W:=[0,1,4]
def res(r:Bool):D×List D:=(bL r,[])
def C(x0:List api_FD)(k1_0:Int)(r:Bool):Prop:=Ret env 101 [.sl (x0.map Aa3),.fn 102 [.ref [uL k1_0]]] (res r).1 (res r).2
def nt(x0:List api_FD)(k1_0:Int)(J:Bool->Prop)(h:∃r1:Int,q12_.C x0 k1_0 r1/\J (decide (0<=r1))):∃r,J r/\C x0 k1_0 r:=mE Tryz.f101 B W res<|mCal 6 h (fun _ h=>h) fun r1 _ h=>mRet 3 h
end q8_
namespace q113_
def B:=bd Tryz.f70
def W:=[0,1,2,3,8,9,10,11,13,20,28,29,30,31,36,39]
def res(r:Int×Int):D×List D:=(.tup [uL r.1,iL r.2],[])
def C(x0:Int)(x1:List api_FD)(x2:List api_MVD)(x3:Int)(r:Int×Int):Prop:=Ret env 70 [iL x0,.sl (x1.map Aa3),.sl (x2.map Aa4),uL x3] (res r).1 (res r).2
def L1(x1:List api_FD)(x3:Int)(r3:List Int)(z0:Int)(J:Int×Int->Prop):Prop:=Pt env 70 W B [1,1,1,0,1,0] [(1,.sl (x1.map Aa3)),(11,uL x3),(28,.sl (r3.map (eI .u32))),(29,iL (r3.length:Int)),(30,iL z0)] (Lv env 70 Tryz.f70 4 res J)
def L2(x1:List api_FD)(x3:Int)(r3:List Int)(z0:Int)(J:Int×Int->Prop):Prop:=Pt env 70 W B [1,1,1,0,1,0,0,1,1,1] [(1,.sl (x1.map Aa3)),(11,uL x3),(28,.sl (r3.map (eI .u32))),(29,iL (r3.length:Int)),(30,iL z0)] (Lv env 70 Tryz.f70 4 res J)
def K1(x1:List api_FD)(x3:Int)(r3:List Int)(z0:Int)(J:Int×Int->Prop)(h:(if z0<(r3.length:Int)then ∃a4,lget r3 z0=some a4/\∃r6:Int,q102_.C a4 r6/\(if r6=1 then ∃r7:Bool,q8_.C x1 a4 r7/\(if r7=true then L2 x1 (bOr .u32 x3 a4) r3 z0 J else L2 x1 x3 r3 z0 J)else L2 x1 x3 r3 z0 J)else J (x3,0))):L1 x1 x3 r3 z0 J:=mIn<|mAsk 2 h dT dF (fun h=>mIx 4 (eI .u32) h fun a4 h5 h=>mCal 6 h (fun _ h=>h) fun r6 _ h=>Abr 0 h Abm Abl (fun h=>mFin 3 h) fun h=>Ab3 6 h (fun _ h=>h) (fun _ h=>mFin 8 h) fun _ h=>mFin 3 h) fun h=>mRet 8 h
def K2(x1:List api_FD)(x3:Int)(r3:List Int)(z0:Int)(J:Int×Int->Prop)(h:L1 x1 x3 r3 (IntKind.wrap .i64 (z0+1)) J):L2 x1 x3 r3 z0 J:=mIn<|mFin 4 h
def nt(x0:Int)(x1:List api_FD)(x2:List api_MVD)(x3:Int)(J:Int×Int->Prop)(h:∃r1:Int,q112_.C x0 x1 x2 x3 r1/\(if r1=0 then ∃r2:List api_MVD,q119_.C x1 x2 r2/\∃r3:List Int,q105_.C x0 r2 x3 r3/\L1 x1 x3 r3 0 J else J (0,r1))):∃r,J r/\C x0 x1 x2 x3 r:=mE Tryz.f70 B W res<|mCal 9 h (fun _ h=>h) fun r1 _ h=>Abr 4 h Abm Abl (fun h=>mRet 7 h) fun h=>Ayg 11 h (fun _ h=>h) (fun(r2:List api_MVD)=>Aqz (l:=r2) (e:=Aa4) (e':=Aa4) rfl (fun _=>rfl)) (hf:=(fun _=>Aak (Aaj (e:=Aa4) (fun _=>rfl)) rfl)) fun r2 _ h=>mCal 1 h (fun _ h=>h) (hf:=(fun _=>Ahn)) fun r3 _ h=>mLen 0 (eI .u32) r3<|mFin 2 h
end q113_
namespace q80_
def B:=bd Tryz.f27
def W:=[0,1,4,5,6,7,14]
def res(r:List api_MVD):D×List D:=(.own (r.map Aa4),[])
def C(x0:Int)(x1:List drossref09_Dep)(r:List api_MVD):Prop:=Ret env 27 [iL x0,.sl (x1.map Aac)] (res r).1 (res r).2
def L1(z0:List api_MVD)(r1:List api_FD)(z1:Int)(J:List api_MVD->Prop):Prop:=Pt env 27 W B [1,1,1,0,1,0] [(5,.own (z0.map Aa4)),(6,.own (r1.map Aa3)),(7,iL z1)] (Lv env 27 Tryz.f27 2 res J)
def K1(z0:List api_MVD)(r1:List api_FD)(z1:Int)(J:List api_MVD->Prop)(h:(if z1<(r1.length:Int)then ∃a2,lget r1 z1=some a2/\(z0.length+1)*8<=140737488355328/\L1 (z0++[(⟨a2.Lhs,a2.Rhs⟩:api_MVD)]) r1 (IntKind.wrap .i64 (z1+1)) J else J z0)):L1 z0 r1 z1 J:=mIn<|mLen 4 Aa3 r1<|mAsk 0 h dT dF (fun h=>mIy 7 Aa3 h fun a2 h3 h=>mLd 1 Aa3 h3<|mIyf 2 Aa3 h3<|mLd 1 Aa3 h3<|mApp 2 Aa4 z0 ([(⟨a2.Lhs,a2.Rhs⟩:api_MVD)]) h fun h=>mFin 7 h) fun h=>mRet 7 h
def nt(x0:Int)(x1:List drossref09_Dep)(J:List api_MVD->Prop)(h:∃r1:List api_FD,q79_.C x0 x1 r1/\L1 ([]) r1 0 J):∃r,J r/\C x0 x1 r:=mE Tryz.f27 B W res<|mCal 9 h (fun _ h=>h) (hf:=(fun _=>Aak (Aaj (e:=Aa3) (fun _=>rfl)) rfl)) fun r1 _ h=>mFin 5 h
end q80_
namespace q97_
def B:=bd Tryz.f31
def W:=[0,1,2,3,4,10,11,17,20,26]
def res(r:Int):D×List D:=(iL r,[])
def C(x0:Int)(x1:List api_FD)(x2:List api_MVD)(x3 x4 r:Int):Prop:=Ret env 31 [iL x0,.sl (x1.map Aa3),.sl (x2.map Aa4),uL x3,uL x4] (res r).1 (res r).2
def nt(x0:Int)(x1:List api_FD)(x2:List api_MVD)(x3 x4:Int)(J:Int->Prop)(h:∃r1:Int,q110_.C x0 x1 x2 r1/\(if r1=0 then(if 8<x0 then J 3 else ∃r2:Bool,q93_.C x0 (bOr .u32 x3 x4) r2/\(if r2=true then J 0 else J 1))else J r1)):∃r,J r/\C x0 x1 x2 x3 x4 r:=mE Tryz.f31 B W res<|mCal 7 h (fun _ h=>h) fun r1 _ h=>Abr 4 h Abm Abl (fun h=>mRet 6 h) fun h=>mAsk 5 h dT dF (fun h=>mRet 5 h) fun h=>Ab3 8 h (fun _ h=>h) (fun _ h=>mRet 7 h) fun _ h=>mRet 6 h
end q97_
namespace q81_
def B:=bd Tryz.f32
def W:=[0,1,2,3,7,8,9,10,11,12,23]
def res(r:Bool×Int):D×List D:=(.tup [bL r.1,iL r.2],[])
def C(x0:Int)(x1:List api_FD)(x2:List api_MVD)(x3:api_FD)(r:Bool×Int):Prop:=Ret env 32 [iL x0,.sl (x1.map Aa3),.sl (x2.map Aa4),.agg [uL x3.Lhs,uL x3.Rhs]] (res r).1 (res r).2
def nt(x0:Int)(x1:List api_FD)(x2:List api_MVD)(x3:api_FD)(J:Bool×Int->Prop)(h:∃r1:Int,q112_.C x0 x1 x2 (bOr .u32 x3.Lhs x3.Rhs) r1/\(if r1=0 then ∃r2:Int×Int,q113_.C x0 x1 x2 x3.Lhs r2/\J (((Aae .u32 x3.Rhs r2.1)==0),0)else J (false,r1))):∃r,J r/\C x0 x1 x2 x3 r:=mE Tryz.f32 B W res<|mCal 14 h (fun _ h=>h) fun r1 _ h=>Abr 4 h Abm Abl (fun h=>mRet 7 h) fun h=>mCal 9 h (fun _ h=>h) (hf:=(fun _=>Aak (Abq (Aa6 rfl (Aa6 rfl Aan))) rfl)) fun r2 _ h=>mRet 15 h
end q81_
namespace q65_
def B:=bd Tryz.f48
def W:=[0,1,2,3,7,8,9,10,12,23,31,32,33,34,48]
def res(r:Bool×Int):D×List D:=(.tup [bL r.1,iL r.2],[])
def C(x0:Int)(x1:List api_FD)(x2:List api_MVD)(x3:api_MVD)(r:Bool×Int):Prop:=Ret env 48 [iL x0,.sl (x1.map Aa3),.sl (x2.map Aa4),.agg [uL x3.Lhs,uL x3.Rhs]] (res r).1 (res r).2
def L1(x3:api_MVD)(r3:List Int)(z0:Int)(J:Bool×Int->Prop):Prop:=Pt env 48 W B [1,1,0,1,0] [(3,.agg [uL x3.Lhs,uL x3.Rhs]),(7,.box [uL x3.Lhs,uL x3.Rhs]),(31,.sl (r3.map (eI .u32))),(32,iL (r3.length:Int)),(33,iL z0)] (Lv env 48 Tryz.f48 4 res J)
def L2(x3:api_MVD)(r3:List Int)(z0:Int)(J:Bool×Int->Prop):Prop:=Pt env 48 W B [1,1,0,1,0,0,1,1,1] [(3,.agg [uL x3.Lhs,uL x3.Rhs]),(7,.box [uL x3.Lhs,uL x3.Rhs]),(31,.sl (r3.map (eI .u32))),(32,iL (r3.length:Int)),(33,iL z0)] (Lv env 48 Tryz.f48 4 res J)
def K1(x3:api_MVD)(r3:List Int)(z0:Int)(J:Bool×Int->Prop)(h:(if z0<(r3.length:Int)then ∃a4,lget r3 z0=some a4/\(if(bAnd .u32 a4 x3.Rhs)=0 then L2 x3 r3 z0 J else(if(Aae .u32 a4 x3.Rhs)=0 then L2 x3 r3 z0 J else J (false,0)))else J (true,0))):L1 x3 r3 z0 J:=mIn<|mAsk 2 h dT dF (fun h=>mIx 4 (eI .u32) h fun a4 h5 h=>Abr 8 h Abm Abl (fun h=>Abr 5 h Abm Abl (fun h=>mRet 7 h) fun h=>mFin 4 h) fun h=>mFin 10 h) fun h=>mRet 7 h
def K2(x3:api_MVD)(r3:List Int)(z0:Int)(J:Bool×Int->Prop)(h:L1 x3 r3 (IntKind.wrap .i64 (z0+1)) J):L2 x3 r3 z0 J:=mIn<|mFin 4 h
def nt(x0:Int)(x1:List api_FD)(x2:List api_MVD)(x3:api_MVD)(J:Bool×Int->Prop)(h:∃r1:Int,q112_.C x0 x1 x2 (bOr .u32 x3.Lhs x3.Rhs) r1/\(if r1=0 then ∃r2:List api_MVD,q119_.C x1 x2 r2/\∃r3:List Int,q105_.C x0 r2 x3.Lhs r3/\L1 x3 r3 0 J else J (false,r1))):∃r,J r/\C x0 x1 x2 x3 r:=mE Tryz.f48 B W res<|mCal 14 h (fun _ h=>h) fun r1 _ h=>Abr 4 h Abm Abl (fun h=>mRet 7 h) fun h=>mLoE 7 h (fun _ h=>h) (fun(r2:List api_MVD)=>Aqz (l:=r2) (e:=Aa4) (e':=Aa4) rfl (fun _=>rfl)) (hf:=(fun _=>Ao9 (Aaj (e:=Aa4) (fun _=>rfl)))) fun r2 _ h=>mLo 2 h (fun _ h=>h) (hf:=(fun _=>Avv)) fun r3 _ h=>mLen 0 (eI .u32) r3<|mFin 2 h
end q65_
namespace q98_
def B:=bd Tryz.f8
def W:=[0,1,2,3,4,5,6,7,8]
def res(r:Int×List api_FD×List api_MVD×Bool):D×List D:=(.tup [iL r.1,.sl (r.2.1.map Aa3),.sl (r.2.2.1.map Aa4),bL r.2.2.2],[])
def C(x0:drossref13_Mixed)(r:Int×List api_FD×List api_MVD×Bool):Prop:=Ret env 8 [.agg [.lit (.int .u8 x0.D.N),.sl (x0.D.L.map Aac),.sl (x0.M.map Aac)]] (res r).1 (res r).2
def nt(x0:drossref13_Mixed)(J:Int×List api_FD×List api_MVD×Bool->Prop)(h:∃r1:Int×List api_FD×Bool,q95_.C x0.D r1/\∃r2:List api_MVD,q80_.C r1.1 x0.M r2/\(if r1.2.2=true then J (r1.1,r1.2.1,r2,(decide ((x0.M.length:Int)<=4)))else J (r1.1,r1.2.1,r2,false))):∃r,J r/\C x0 r:=mE Tryz.f8 B W res<|mCal 10 h (fun _ h=>h) (hf:=(fun _=>Ahn)) fun r1 _ h=>mLoE 14 h (fun _ h=>h) (fun(r2:List api_MVD)=>Aqz (l:=r2) (e:=Aa4) (e':=Aa4) rfl (fun _=>rfl)) (hf:=(fun _=>Ao9 (Aaj (e:=Aa4) (fun _=>rfl)))) fun r2 _ h=>mAsk 0 h id fls (fun h=>mLen 3 Aac x0.M<|mRet 7 h) fun h=>mRet 11 h
end q98_
namespace q16_
def B:=bd Tryz.f103
def W:=[0,1,4,5,7,8,9,16]
def res(r:Int):D×List D:=(iL r,[])
def C(x0:List Int)(x1 r:Int):Prop:=Ret env 103 [.sl (x0.map (eI .u32)),uL x1] (res r).1 (res r).2
def L1(x0:List Int)(x1 z0:Int)(J:Int->Prop):Prop:=Pt env 103 W B [1,0,1,0] [(0,.sl (x0.map (eI .u32))),(1,uL x1),(7,iL (x0.length:Int)),(8,iL z0)] (Lv env 103 Tryz.f103 2 res J)
def K1(x0:List Int)(x1 z0:Int)(J:Int->Prop)(h:(if z0<(x0.length:Int)then ∃a1,lget x0 z0=some a1/\(if x1=a1 then J z0 else L1 x0 x1 (IntKind.wrap .i64 (z0+1)) J)else J (-1))):L1 x0 x1 z0 J:=mIn<|mAsk 2 h dT dF (fun h=>mIx 11 (eI .u32) h fun a1 h2 h=>mAsk 1 h Abd Abc (fun h=>mRet 6 h) fun h=>mFin 7 h) fun h=>mRet 6 h
def nt(x0:List Int)(x1:Int)(J:Int->Prop)(h:L1 x0 x1 0 J):∃r,J r/\C x0 x1 r:=mE Tryz.f103 B W res<|mLen 5 (eI .u32) x0<|mFin 2 h
end q16_
namespace q13_
def B:=bd Tryz.f72
def W:=[0,1,4]
def res(r:Bool):D×List D:=(bL r,[])
def C(x0:List Int)(x1:Int)(r:Bool):Prop:=Ret env 72 [.sl (x0.map (eI .u32)),uL x1] (res r).1 (res r).2
def nt(x0:List Int)(x1:Int)(J:Bool->Prop)(h:∃r1:Int,q16_.C x0 x1 r1/\J (decide (0<=r1))):∃r,J r/\C x0 x1 r:=mE Tryz.f72 B W res<|mCal 6 h (fun _ h=>h) fun r1 _ h=>mRet 3 h
end q13_
namespace q86_
def B:=bd Tryz.f71
def W:=[0,1,3,6,1000001]
def res(r:Bool×List Int):D×List D:=(bL r.1,[.box [.own (r.2.map (eI .u32))]])
def C(x0:Int)(k1_0:List Int)(r:Bool×List Int):Prop:=Ret env 71 [uL x0,.box [.own (k1_0.map (eI .u32))]] (res r).1 (res r).2
def nt(x0:Int)(k1_0:List Int)(J:Bool×List Int->Prop)(h:∃r1:Bool,q13_.C k1_0 x0 r1/\(if r1=true then J (false,k1_0)else(k1_0.length+1)*4<=140737488355328/\J (true,(k1_0++[x0])))):∃r,J r/\C x0 k1_0 r:=mE Tryz.f71 B W res<|Ab3 6 h (fun _ h=>h) (hr:=by exact(Abs (Aba (s:=1000001) (ps:=[(0,0)]) (l:=k1_0) (e:=(eI .u32)) (e':=(eI .u32)) (fun _=>rfl) (by kernel_rfl)) (pr_k Ad2))) (fun _ h=>mRet 5 h) fun _ h=>mApp 7 (eI .u32) k1_0 ([x0]) h fun h=>mRet 5 h
end q86_
namespace q106_
def B:=bd Tryz.f34
def W:=[0,1,2,3,8,9,10,11,13,14,16,18,19,21,23,24,26,28,38,39,40,41,42,45,46,47,48,51,52,53,54,63,75,77,78,79,80,90,91,92,93,102,103,104,105,109,110,111,112,132]
def res(r:List Int):D×List D:=(.own (r.map (eI .u32)),[])
def C(x0:Int)(x1:List api_FD)(x2:List api_MVD)(x3:Int)(r:List Int):Prop:=Ret env 34 [iL x0,.sl (x1.map Aa3),.sl (x2.map Aa4),uL x3] (res r).1 (res r).2
def L1(x1:List api_FD)(x2:List api_MVD)(z0:List Int)(z1:Bool)(J:List Int->Prop):Prop:=Pt env 34 W B [1,1,1,1,0,1,0] [(1,.sl (x1.map Aa3)),(2,.sl (x2.map Aa4)),(9,.box [.own (z0.map (eI .u32))]),(10,.fn 71 [.alias 9 []]),(11,bL z1)] (Lv env 34 Tryz.f34 4 res J)
def L2(x1:List api_FD)(x2:List api_MVD)(z0:List Int)(z1:Bool)(z2:Int)(J:List Int->Prop):Prop:=Pt env 34 W B [1,1,1,1,0,1,0,0,1,0,1,0,1,0] [(1,.sl (x1.map Aa3)),(2,.sl (x2.map Aa4)),(9,.box [.own (z0.map (eI .u32))]),(10,.fn 71 [.alias 9 []]),(11,bL z1),(39,.sl (x1.map Aa3)),(40,iL (x1.length:Int)),(41,iL z2)] (Lv env 34 Tryz.f34 4 res J)
def L3(x1:List api_FD)(x2:List api_MVD)(z0:List Int)(z1:Bool)(a3:api_FD)(z2 z3:Int)(z4 z5:Int)(J:List Int->Prop):Prop:=Pt env 34 W B [1,1,1,1,0,1,0,0,1,0,1,0,1,0,0,1,1,0,0,1,1,0,1,0] [(1,.sl (x1.map Aa3)),(2,.sl (x2.map Aa4)),(9,.box [.own (z0.map (eI .u32))]),(10,.fn 71 [.alias 9 []]),(11,bL z1),(13,.box [uL a3.Lhs,uL a3.Rhs]),(14,uL z2),(39,.sl (x1.map Aa3)),(40,iL (x1.length:Int)),(41,iL z3),(45,.alias 9 [(0,0)]),(46,iL z4),(47,iL z5)] (Lv env 34 Tryz.f34 4 res J)
def L4(x1:List api_FD)(x2:List api_MVD)(z0:List Int)(z1:Bool)(z2:Int)(J:List Int->Prop):Prop:=Pt env 34 W B [1,1,1,1,0,1,0,0,1,0,1,1,1,0] [(1,.sl (x1.map Aa3)),(2,.sl (x2.map Aa4)),(9,.box [.own (z0.map (eI .u32))]),(10,.fn 71 [.alias 9 []]),(11,bL z1),(90,.sl (x2.map Aa4)),(91,iL (x2.length:Int)),(92,iL z2)] (Lv env 34 Tryz.f34 4 res J)
def L5(x1:List api_FD)(x2:List api_MVD)(z0:List Int)(z1:Bool)(a3:api_FD)(z2 a5:Int)(z3 z4:Int)(z5 z6 z7:Int)(J:List Int->Prop):Prop:=Pt env 34 W B [1,1,1,1,0,1,0,0,1,0,1,0,1,0,0,1,1,0,0,1,1,0,1,0,0,1,1,0,0,1,1,0] [(1,.sl (x1.map Aa3)),(2,.sl (x2.map Aa4)),(9,.box [.own (z0.map (eI .u32))]),(10,.fn 71 [.alias 9 []]),(11,bL z1),(13,.box [uL a3.Lhs,uL a3.Rhs]),(14,uL z2),(16,uL a5),(39,.sl (x1.map Aa3)),(40,iL (x1.length:Int)),(41,iL z3),(45,.alias 9 [(0,0)]),(46,iL z4),(47,iL z5),(51,.alias 9 [(0,0)]),(52,iL z6),(53,iL z7)] (Lv env 34 Tryz.f34 4 res J)
def L9(x1:List api_FD)(x2:List api_MVD)(z0:List Int)(z1:Bool)(z2:Int)(J:List Int->Prop):Prop:=Pt env 34 W B [1,1,1,1,0,1,0,0,1,0,1,0,1,0,0,1,1,1] [(1,.sl (x1.map Aa3)),(2,.sl (x2.map Aa4)),(9,.box [.own (z0.map (eI .u32))]),(10,.fn 71 [.alias 9 []]),(11,bL z1),(39,.sl (x1.map Aa3)),(40,iL (x1.length:Int)),(41,iL z2)] (Lv env 34 Tryz.f34 4 res J)
def L6(x1:List api_FD)(x2:List api_MVD)(z0:List Int)(z1:Int)(z2:List Int)(z3 z4 z5:Int)(J:List Int->Prop):Prop:=Pt env 34 W B [1,1,1,1,0,1,0,0,1,0,1,0,1,0,0,1,1,0,0,1,1,1,1,1,1,1,1,0] [(1,.sl (x1.map Aa3)),(2,.sl (x2.map Aa4)),(9,.box [.own (z0.map (eI .u32))]),(10,.fn 71 [.alias 9 []]),(11,bL true),(14,uL z1),(19,.own (z2.map (eI .u32))),(39,.sl (x1.map Aa3)),(40,iL (x1.length:Int)),(41,iL z3),(77,.alias 19 []),(78,iL z4),(79,iL z5)] (Lv env 34 Tryz.f34 4 res J)
def L7(x1:List api_FD)(x2:List api_MVD)(z0:List Int)(z1:Bool)(a7:api_MVD)(z2:Int)(z3:List Int)(z4 z5:Int)(J:List Int->Prop):Prop:=Pt env 34 W B [1,1,1,1,0,1,0,0,1,0,1,1,1,0,0,1,1,0,0,1,1,1,0] [(1,.sl (x1.map Aa3)),(2,.sl (x2.map Aa4)),(9,.box [.own (z0.map (eI .u32))]),(10,.fn 71 [.alias 9 []]),(11,bL z1),(23,.box [uL a7.Lhs,uL a7.Rhs]),(24,uL (bOr .u32 a7.Lhs a7.Rhs)),(90,.sl (x2.map Aa4)),(91,iL (x2.length:Int)),(92,iL z2),(102,.own (z3.map (eI .u32))),(103,iL z4),(104,iL z5)] (Lv env 34 Tryz.f34 4 res J)
def L8(x1:List api_FD)(x2:List api_MVD)(z0:List Int)(z1:Bool)(a3:api_FD)(z2 a5:Int)(z3 z4:Int)(z5 z6 z7:Int)(J:List Int->Prop):Prop:=Pt env 34 W B [1,1,1,1,0,1,0,0,1,0,1,0,1,0,0,1,1,0,0,1,1,0,1,0,0,1,1,0,0,1,1,0,0,1,1,1] [(1,.sl (x1.map Aa3)),(2,.sl (x2.map Aa4)),(9,.box [.own (z0.map (eI .u32))]),(10,.fn 71 [.alias 9 []]),(11,bL z1),(13,.box [uL a3.Lhs,uL a3.Rhs]),(14,uL z2),(16,uL a5),(39,.sl (x1.map Aa3)),(40,iL (x1.length:Int)),(41,iL z3),(45,.alias 9 [(0,0)]),(46,iL z4),(47,iL z5),(51,.alias 9 [(0,0)]),(52,iL z6),(53,iL z7)] (Lv env 34 Tryz.f34 4 res J)
def L10(x1:List api_FD)(x2:List api_MVD)(z0:List Int)(z1:Bool)(a7:api_MVD)(a15 z2:Int)(z3:List Int)(z4 z5:Int)(z6:List Int)(z7 z8:Int)(J:List Int->Prop):Prop:=Pt env 34 W B [1,1,1,1,0,1,0,0,1,0,1,1,1,0,0,1,1,0,0,1,1,1,0,0,1,1,0,0,1,1,0] [(1,.sl (x1.map Aa3)),(2,.sl (x2.map Aa4)),(9,.box [.own (z0.map (eI .u32))]),(10,.fn 71 [.alias 9 []]),(11,bL z1),(23,.box [uL a7.Lhs,uL a7.Rhs]),(24,uL (bOr .u32 a7.Lhs a7.Rhs)),(26,uL a15),(90,.sl (x2.map Aa4)),(91,iL (x2.length:Int)),(92,iL z2),(102,.own (z3.map (eI .u32))),(103,iL z4),(104,iL z5),(109,.own (z6.map (eI .u32))),(110,iL z7),(111,iL z8)] (Lv env 34 Tryz.f34 4 res J)
def L11(x1:List api_FD)(x2:List api_MVD)(z0:List Int)(z1:Bool)(a7:api_MVD)(a15 z2:Int)(z3:List Int)(z4 z5:Int)(z6:List Int)(z7 z8:Int)(J:List Int->Prop):Prop:=Pt env 34 W B [1,1,1,1,0,1,0,0,1,0,1,1,1,0,0,1,1,0,0,1,1,1,0,0,1,1,0,0,1,1,0,0,1,1,1] [(1,.sl (x1.map Aa3)),(2,.sl (x2.map Aa4)),(9,.box [.own (z0.map (eI .u32))]),(10,.fn 71 [.alias 9 []]),(11,bL z1),(23,.box [uL a7.Lhs,uL a7.Rhs]),(24,uL (bOr .u32 a7.Lhs a7.Rhs)),(26,uL a15),(90,.sl (x2.map Aa4)),(91,iL (x2.length:Int)),(92,iL z2),(102,.own (z3.map (eI .u32))),(103,iL z4),(104,iL z5),(109,.own (z6.map (eI .u32))),(110,iL z7),(111,iL z8)] (Lv env 34 Tryz.f34 4 res J)
def K1(x1:List api_FD)(x2:List api_MVD)(z0:List Int)(z1:Bool)(J:List Int->Prop)(h:(if z1=true then L2 x1 x2 z0 false 0 J else J z0)):L1 x1 x2 z0 z1 J:=mIn<|mAsk 2 h id fls (fun h=>mLen 8 Aa3 x1<|mFin 2 h) fun h=>mRet 7 h
def K2(x1:List api_FD)(x2:List api_MVD)(z0:List Int)(z1:Bool)(z2:Int)(J:List Int->Prop)(h:(if z2<(x1.length:Int)then ∃a3,lget x1 z2=some a3/\L3 x1 x2 z0 z1 a3 0 z2 (z0.length:Int) 0 J else L4 x1 x2 z0 z1 0 J)):L2 x1 x2 z0 z1 z2 J:=mIn<|mAsk 2 h dT dF (fun h=>mIx 4 Aa3 h fun a3 h4 h=>mLen 9 (eI .u32) z0<|mFin 2 h) fun h=>mLen 5 Aa4 x2<|mFin 2 h
def K3(x1:List api_FD)(x2:List api_MVD)(z0:List Int)(z1:Bool)(a3:api_FD)(z2 z3:Int)(z4 z5:Int)(J:List Int->Prop)(h:(if z5<z4 then ∃a5,lget z0 z5=some a5/\L5 x1 x2 z0 z1 a3 z2 a5 z3 z4 z5 (z0.length:Int) 0 J else(if z2=0 then L9 x1 x2 z0 z1 z3 J else L6 x1 x2 ([]) z2 z0 z3 (z0.length:Int) 0 J))):L3 x1 x2 z0 z1 a3 z2 z3 z4 z5 J:=mIn<|mAsk 2 h dT dF (fun h=>mIy 4 (eI .u32) h fun a5 h6 h=>mLd 0 (eI .u32) h6<|mLen 4 (eI .u32) z0<|mFin 2 h) fun h=>mAsk 5 h Abd Abc (fun h=>mFin 3 h) fun h=>mLen 15 (eI .u32) z0<|mFin 2 h
def K4(x1:List api_FD)(x2:List api_MVD)(z0:List Int)(z1:Bool)(z2:Int)(J:List Int->Prop)(h:(if z2<(x2.length:Int)then ∃a7,lget x2 z2=some a7/\z0.length*4<=140737488355328/\L7 x1 x2 z0 z1 a7 z2 z0 (z0.length:Int) 0 J else L1 x1 x2 z0 z1 J)):L4 x1 x2 z0 z1 z2 J:=mIn<|mAsk 2 h dT dF (fun h=>mIx 4 Aa4 h fun a7 h8 h=>h.elim fun h9 h=>Aoa 14 (show Ret env 73 [.sl (z0.map (eI .u32))] (.own (z0.map (eI .u32))) []from Amd (k:=1) (b:=4) (e:=(eI .u32)) (l:=z0) (by kernel_rfl) (fun _=>rfl) h9) (hr:=by exact(Abs (Aba (s:=9) (ps:=[(0,0)]) (l:=z0) (e:=(eI .u32)) (e':=(eI .u32)) (fun _=>rfl) (by kernel_rfl)) Ad2)) (hf:=(Aak (Aaj (e:=(eI .u32)) (fun _=>rfl)) rfl))<|mLen 0 (eI .u32) z0<|mFin 2 h) fun h=>mFin 3 h
def K5(x1:List api_FD)(x2:List api_MVD)(z0:List Int)(z1:Bool)(a3:api_FD)(z2 a5:Int)(z3 z4:Int)(z5 z6 z7:Int)(J:List Int->Prop)(h:(if z7<z6 then ∃a10,lget z0 z7=some a10/\(if(bAnd .u32 (bXor .u32 a5 a10) a3.Lhs)=0 then L8 x1 x2 z0 z1 a3 (bOr .u32 z2 (bAnd .u32 (bXor .u32 a5 a10) a3.Rhs)) a5 z3 z4 z5 z6 z7 J else L8 x1 x2 z0 z1 a3 z2 a5 z3 z4 z5 z6 z7 J)else L3 x1 x2 z0 z1 a3 z2 z3 z4 (IntKind.wrap .i64 (z5+1)) J)):L5 x1 x2 z0 z1 a3 z2 a5 z3 z4 z5 z6 z7 J:=mIn<|mAsk 2 h dT dF (fun h=>mIy 4 (eI .u32) h fun a10 h11 h=>mLd 0 (eI .u32) h11<|mAsk 9 h Abd Abc (fun h=>mFin 13 h) fun h=>mFin 3 h) fun h=>mFin 7 h
def K9(x1:List api_FD)(x2:List api_MVD)(z0:List Int)(z1:Bool)(z2:Int)(J:List Int->Prop)(h:L2 x1 x2 z0 z1 (IntKind.wrap .i64 (z2+1)) J):L9 x1 x2 z0 z1 z2 J:=mIn<|mFin 4 h
def K6(x1:List api_FD)(x2:List api_MVD)(z0:List Int)(z1:Int)(z2:List Int)(z3 z4 z5:Int)(J:List Int->Prop)(h:(if z5<z4 then ∃a12,lget z2 z5=some a12/\∃r14:Bool×List Int,q86_.C (Aae .u32 a12 z1) z0 r14/\L6 x1 x2 r14.2 z1 z2 z3 z4 (IntKind.wrap .i64 (z5+1)) J else L9 x1 x2 z0 true z3 J)):L6 x1 x2 z0 z1 z2 z3 z4 z5 J:=mIn<|mAsk 2 h dT dF (fun h=>mIy 4 (eI .u32) h fun a12 h13 h=>mLd 0 (eI .u32) h13<|mCal 7 h (fun _ h=>h) fun r14 _ h=>mFin 5 h) fun h=>mFin 3 h
def K7(x1:List api_FD)(x2:List api_MVD)(z0:List Int)(z1:Bool)(a7:api_MVD)(z2:Int)(z3:List Int)(z4 z5:Int)(J:List Int->Prop)(h:(if z5<z4 then ∃a15,lget z3 z5=some a15/\z0.length*4<=140737488355328/\L10 x1 x2 z0 z1 a7 a15 z2 z3 z4 z5 z0 (z0.length:Int) 0 J else L4 x1 x2 z0 z1 (IntKind.wrap .i64 (z2+1)) J)):L7 x1 x2 z0 z1 a7 z2 z3 z4 z5 J:=mIn<|mAsk 2 h dT dF (fun h=>mIy 4 (eI .u32) h fun a15 h16 h=>mLd 0 (eI .u32) h16<|h.elim fun h17 h=>Aoa 4 (show Ret env 73 [.sl (z0.map (eI .u32))] (.own (z0.map (eI .u32))) []from Amd (k:=1) (b:=4) (e:=(eI .u32)) (l:=z0) (by kernel_rfl) (fun _=>rfl) h17) (hr:=by exact(Abs (Aba (s:=9) (ps:=[(0,0)]) (l:=z0) (e:=(eI .u32)) (e':=(eI .u32)) (fun _=>rfl) (by kernel_rfl)) Ad2)) (hf:=(Aak (Aaj (e:=(eI .u32)) (fun _=>rfl)) rfl))<|mLen 0 (eI .u32) z0<|mFin 2 h) fun h=>mFin 7 h
def K8(x1:List api_FD)(x2:List api_MVD)(z0:List Int)(z1:Bool)(a3:api_FD)(z2 a5:Int)(z3 z4:Int)(z5 z6 z7:Int)(J:List Int->Prop)(h:L5 x1 x2 z0 z1 a3 z2 a5 z3 z4 z5 z6 (IntKind.wrap .i64 (z7+1)) J):L8 x1 x2 z0 z1 a3 z2 a5 z3 z4 z5 z6 z7 J:=mIn<|mFin 4 h
def K10(x1:List api_FD)(x2:List api_MVD)(z0:List Int)(z1:Bool)(a7:api_MVD)(a15 z2:Int)(z3:List Int)(z4 z5:Int)(z6:List Int)(z7 z8:Int)(J:List Int->Prop)(h:(if z8<z7 then ∃a18,lget z6 z8=some a18/\(if(bAnd .u32 (bXor .u32 a15 a18) a7.Lhs)=0 then ∃r20:Bool×List Int,q86_.C (bOr .u32 (bAnd .u32 a15 (bOr .u32 a7.Lhs a7.Rhs)) (Aae .u32 a18 (bOr .u32 a7.Lhs a7.Rhs))) z0 r20/\(if r20.1=true then L11 x1 x2 r20.2 true a7 a15 z2 z3 z4 z5 z6 z7 z8 J else L11 x1 x2 r20.2 z1 a7 a15 z2 z3 z4 z5 z6 z7 z8 J)else L11 x1 x2 z0 z1 a7 a15 z2 z3 z4 z5 z6 z7 z8 J)else L7 x1 x2 z0 z1 a7 z2 z3 z4 (IntKind.wrap .i64 (z5+1)) J)):L10 x1 x2 z0 z1 a7 a15 z2 z3 z4 z5 z6 z7 z8 J:=mIn<|mAsk 2 h dT dF (fun h=>mIy 4 (eI .u32) h fun a18 h19 h=>mLd 0 (eI .u32) h19<|mAsk 9 h Abd Abc (fun h=>mCal 9 h (fun _ h=>h) fun r20 _ h=>mAsk 0 h id fls (fun h=>mFin 5 h) fun h=>mFin 3 h) fun h=>mFin 14 h) fun h=>mFin 7 h
def K11(x1:List api_FD)(x2:List api_MVD)(z0:List Int)(z1:Bool)(a7:api_MVD)(a15 z2:Int)(z3:List Int)(z4 z5:Int)(z6:List Int)(z7 z8:Int)(J:List Int->Prop)(h:L10 x1 x2 z0 z1 a7 a15 z2 z3 z4 z5 z6 z7 (IntKind.wrap .i64 (z8+1)) J):L11 x1 x2 z0 z1 a7 a15 z2 z3 z4 z5 z6 z7 z8 J:=mIn<|mFin 4 h
def nt(x0:Int)(x1:List api_FD)(x2:List api_MVD)(x3:Int)(J:List Int->Prop)(h:0<=x0/\∃r2:Bool×List Int,q86_.C (Aae .u32 (IntKind.wrap .u32 ((shlw .u32 1 x0)-1)) x3) ([0]) r2/\L1 x1 x2 r2.2 true J):∃r,J r/\C x0 x1 x2 x3 r:=mE Tryz.f34 B W res<|h.elim fun h1 h=>mBi 15 (Aqw (t:=34) (q:=.u32) (q':=.i64) (i1:=1) h1)<|mCal 3 h (fun _ h=>h) fun r2 _ h=>mFin 4 h
end q106_
namespace q107_
def B:=bd Tryz.f11
def W:=[0,1,2,3,7,8,9,10,11,12,22,33]
def res(r:api_Table×Int):D×List D:=(.tup [.agg [tL r.1.Name,.own (r.1.Attrs.map eS),.own (r.1.Rows.map Aam)],iL r.2],[])
def C(x0:Int)(x1:List api_FD)(x2:List api_MVD)(x3:api_FD)(r:api_Table×Int):Prop:=Ret env 11 [iL x0,.sl (x1.map Aa3),.sl (x2.map Aa4),.agg [uL x3.Lhs,uL x3.Rhs]] (res r).1 (res r).2
def nt(x0:Int)(x1:List api_FD)(x2:List api_MVD)(x3:api_FD)(J:api_Table×Int->Prop)(h:∃r1:Int,q97_.C x0 x1 x2 x3.Lhs x3.Rhs r1/\(if r1=0 then ∃r2:Bool×Int,q81_.C x0 x1 x2 x3 r2/\(if r2.1=true then J ((⟨(⟨#[]⟩:ByteArray),[],[]⟩:api_Table),10)else ∃r3:List Int,q106_.C x0 x1 x2 x3.Lhs r3/\∃r4:api_Table,q103_.C x0 r3 r4/\J (r4,0))else J ((⟨(⟨#[]⟩:ByteArray),[],[]⟩:api_Table),r1))):∃r,J r/\C x0 x1 x2 x3 r:=mE Tryz.f11 B W res<|mCal 13 h (fun _ h=>h) fun r1 _ h=>Abr 4 h Abm Abl (fun h=>mRet 8 h) fun h=>mCal 8 h (fun _ h=>h) (hf:=(fun _=>Aak (Abq (Aa6 rfl (Aa6 rfl Aan))) rfl)) fun r2 _ h=>mAsk 7 h id fls (fun h=>mRet 7 h) fun h=>mCal 10 h (fun _ h=>h) (hf:=(fun _=>Aak (Aaj (e:=(eI .u32)) (fun _=>rfl)) rfl)) fun r3 _ h=>mCal 0 h (fun _ h=>h) (hr:=by exact(pr_k (Abs (Aba (s:=41) (ps:=[]) (l:=r3) (e:=(eI .u32)) (e':=(eI .u32)) (fun _=>rfl) (by kernel_rfl)) Ad2))) (hf:=(fun _=>Aak (Ag8 (Aa6 rfl (Aa6 (Aaj (e:=eS) (fun _=>rfl)) (Aa6 (Aaj (e:=Aam) (fun _=>(Aa6 rfl (Aa6 (Aaj (e:=Aa1) (fun _=>rfl)) Aan)))) Aan)))) rfl)) fun r4 _ h=>mRet 3 h
end q107_
namespace q66_
def B:=bd Tryz.f9
def W:=[0,1,2,3,4,5,6,7,8,9,10]
def res(r:Bool):D×List D:=(bL r,[])
def C  (r:Bool):Prop:=Ret env 9 [] (res r).1 (res r).2
def nt  (J:Bool->Prop) (h:∃r1:api_Table×Int,q118_.C 3 ([(⟨1,2⟩:api_FD)]) (⟨1,4⟩:api_FD) r1/\∃r2:api_Table×Int,q94_.C 3 ([(⟨1,2⟩:api_FD)]) (⟨1,4⟩:api_FD) r2/\∃r3:api_Table×Int,q107_.C 3 ([]) ([(⟨1,2⟩:api_MVD)]) (⟨1,2⟩:api_FD) r3/\∃r4:api_Table×Int,q118_.C 3 ([(⟨1,2⟩:api_FD)]) (⟨5,2⟩:api_FD) r4/\(if r1.2=0 then ∃r5:Bool,q60_.C r1.1 r2.1 r5/\(if r5=true then(if(r2.1.Rows.length:Int)=2 then(if r3.2=0 then ∃r6:Int,q50_.C r3.1 r6/\(if r6=0 then(if(r3.1.Attrs.length:Int)=3 then ∃r7:Bool,q61_.C r3.1 ([]) ([(⟨1,2⟩:api_MVD)]) r7/\(if r7=true then ∃r8:Bool,q23_.C r3.1 (⟨1,2⟩:api_FD) r8/\(if r8=true then J false else J (r4.2==10))else J false)else J false)else J false)else J false)else J false)else J false)else J false)):∃r,J r/\C  r:=mE Tryz.f9 B W res<|mCal 11 h (fun _ h=>h) (hr:=by exact(pr_k (Abs (Aba (s:=1) (ps:=[]) (l:=[(⟨1,2⟩:api_FD)]) (e:=Aa3) (e':=Aa3) (fun _=>rfl) (by kernel_rfl)) (pr_k Ad2)))) (hf:=(fun _=>Aak (Abq (Aa6 (Ag8 (Aa6 rfl (Aa6 (Aaj (e:=eS) (fun _=>rfl)) (Aa6 (Aaj (e:=Aam) (fun _=>(Aa6 rfl (Aa6 (Aaj (e:=Aa1) (fun _=>rfl)) Aan)))) Aan)))) (Aa6 rfl Aan))) rfl)) fun r1 _ h=>mCal 10 h (fun _ h=>h) (hr:=by exact(pr_k (Abs (Aba (s:=1) (ps:=[]) (l:=[(⟨1,2⟩:api_FD)]) (e:=Aa3) (e':=Aa3) (fun _=>rfl) (by kernel_rfl)) (pr_k Ad2)))) (hf:=(fun _=>Aak (Abq (Aa6 (Ag8 (Aa6 rfl (Aa6 (Aaj (e:=eS) (fun _=>rfl)) (Aa6 (Aaj (e:=Aam) (fun _=>(Aa6 rfl (Aa6 (Aaj (e:=Aa1) (fun _=>rfl)) Aan)))) Aan)))) (Aa6 rfl Aan))) rfl)) fun r2 _ h=>
 mCal 15 h (fun _ h=>h) (hr:=by exact(pr_k (pr_k (Abs (Aba (s:=6) (ps:=[]) (l:=[(⟨1,2⟩:api_MVD)]) (e:=Aa4) (e':=Aa4) (fun _=>rfl) (by kernel_rfl)) (pr_k Ad2))))) (hf:=(fun _=>Aak (Abq (Aa6 (Ag8 (Aa6 rfl (Aa6 (Aaj (e:=eS) (fun _=>rfl)) (Aa6 (Aaj (e:=Aam) (fun _=>(Aa6 rfl (Aa6 (Aaj (e:=Aa1) (fun _=>rfl)) Aan)))) Aan)))) (Aa6 rfl Aan))) rfl)) fun r3 _ h=>mCal 10 h (fun _ h=>h) (hr:=by exact(pr_k (Abs (Aba (s:=1) (ps:=[]) (l:=[(⟨1,2⟩:api_FD)]) (e:=Aa3) (e':=Aa3) (fun _=>rfl) (by kernel_rfl)) (pr_k Ad2)))) (hf:=(fun _=>Aak (Abq (Aa6 (Ag8 (Aa6 rfl (Aa6 (Aaj (e:=eS) (fun _=>rfl)) (Aa6 (Aaj (e:=Aam) (fun _=>(Aa6 rfl (Aa6 (Aaj (e:=Aa1) (fun _=>rfl)) Aan)))) Aan)))) (Aa6 rfl Aan))) rfl)) fun r4 _ h=>mAsk 9 h Abd Abc (fun h=>Ab3 3 h (fun _ h=>h) (hr:=by exact(Abs (Aj8 (Abo (d:=tL r1.1.Name) (d':=tL r1.1.Name) (by kernel_rfl) (Abo (d:=.alias 2 [(0,1)]) (d':=.sl (r1.1.Attrs.map eS)) (Aba (s:=2) (ps:=[(0,1)]) (l:=r1.1.Attrs) (e:=eS) (e':=eS) (fun _=>rfl) (by kernel_rfl)) (Abo (d:=.alias 2 [(0,2)]) (d':=.sl (r1.1.Rows.map Aa2)) (Aba (s:=2) (ps:=[(0,2)]) (l:=r1.1.Rows) (e:=Aam) (e':=Aa2) (fun x=>(Aca rfl (Aca (Acj (e:=Aa1) (e':=Aa1) (fun _=>rfl) x.Values) Agq))) (by kernel_rfl)) Agi)))) (Abs (Aj8 (Abo (d:=tL r2.1.Name) (d':=tL r2.1.Name) (by kernel_rfl) (Abo (d:=.alias 4 [(0,1)]) (d':=.sl (r2.1.Attrs.map eS)) (Aba (s:=4) (ps:=[(0,1)]) (l:=r2.1.Attrs) (e:=eS) (e':=eS) (fun _=>rfl) (by kernel_rfl)) (Abo (d:=.alias 4 [(0,2)]) (d':=.sl (r2.1.Rows.map Aa2)) (Aba (s:=4) (ps:=[(0,2)]) (l:=r2.1.Rows) (e:=Aam) (e':=Aa2) (fun x=>(Aca rfl (Aca (Acj (e:=Aa1) (e':=Aa1) (fun _=>rfl) x.Values) Agq))) (by kernel_rfl)) Agi)))) Ad2))) (fun _ h=>
 mLen 4 Aam r2.1.Rows<|mAsk 0 h Abd Abc (fun h=>mAsk 3 h Abd Abc (fun h=>mCal 3 h (fun _ h=>h) (hr:=by exact(Abs (Aj8 (Abo (d:=tL r3.1.Name) (d':=tL r3.1.Name) (by kernel_rfl) (Abo (d:=.alias 7 [(0,1)]) (d':=.sl (r3.1.Attrs.map eS)) (Aba (s:=7) (ps:=[(0,1)]) (l:=r3.1.Attrs) (e:=eS) (e':=eS) (fun _=>rfl) (by kernel_rfl)) (Abo (d:=.alias 7 [(0,2)]) (d':=.sl (r3.1.Rows.map Aa2)) (Aba (s:=7) (ps:=[(0,2)]) (l:=r3.1.Rows) (e:=Aam) (e':=Aa2) (fun x=>(Aca rfl (Aca (Acj (e:=Aa1) (e':=Aa1) (fun _=>rfl) x.Values) Agq))) (by kernel_rfl)) Agi)))) Ad2)) fun r6 _ h=>mAsk 0 h Abd Abc (fun h=>mLen 4 eS r3.1.Attrs<|mAsk 0 h Abd Abc (fun h=>Ab3 4 h (fun _ h=>h) (hr:=by exact(Abs (Aj8 (Abo (d:=tL r3.1.Name) (d':=tL r3.1.Name) (by kernel_rfl) (Abo (d:=.alias 7 [(0,1)]) (d':=.sl (r3.1.Attrs.map eS)) (Aba (s:=7) (ps:=[(0,1)]) (l:=r3.1.Attrs) (e:=eS) (e':=eS) (fun _=>rfl) (by kernel_rfl)) (Abo (d:=.alias 7 [(0,2)]) (d':=.sl (r3.1.Rows.map Aa2)) (Aba (s:=7) (ps:=[(0,2)]) (l:=r3.1.Rows) (e:=Aam) (e':=Aa2) (fun x=>(Aca rfl (Aca (Acj (e:=Aa1) (e':=Aa1) (fun _=>rfl) x.Values) Agq))) (by kernel_rfl)) Agi)))) (pr_k (Abs (Aba (s:=6) (ps:=[]) (l:=[(⟨1,2⟩:api_MVD)]) (e:=Aa4) (e':=Aa4) (fun _=>rfl) (by kernel_rfl)) Ad2)))) (fun _ h=>
 Ab3 4 h (fun _ h=>h) (hr:=by exact(Abs (Aj8 (Abo (d:=tL r3.1.Name) (d':=tL r3.1.Name) (by kernel_rfl) (Abo (d:=.alias 7 [(0,1)]) (d':=.sl (r3.1.Attrs.map eS)) (Aba (s:=7) (ps:=[(0,1)]) (l:=r3.1.Attrs) (e:=eS) (e':=eS) (fun _=>rfl) (by kernel_rfl)) (Abo (d:=.alias 7 [(0,2)]) (d':=.sl (r3.1.Rows.map Aa2)) (Aba (s:=7) (ps:=[(0,2)]) (l:=r3.1.Rows) (e:=Aam) (e':=Aa2) (fun x=>(Aca rfl (Aca (Acj (e:=Aa1) (e':=Aa1) (fun _=>rfl) x.Values) Agq))) (by kernel_rfl)) Agi)))) (pr_k Ad2))) (fun _ h=>mRet 8 h) fun _ h=>mRet 8 h) fun _ h=>mRet 13 h) fun h=>mRet 18 h) fun h=>mRet 24 h) fun h=>mRet 29 h) fun h=>mRet 33 h) fun _ h=>mRet 39 h) fun h=>mRet 43 h
end q66_
end Go.Own
namespace Go.Own
set_option maxRecDepth 1000000
def exV(k:Int):api_Value:=⟨1,k,⟨#[]⟩⟩
def exT(rows:List api_Row):api_Table:=⟨⟨#[116]⟩,[⟨#[97]⟩,⟨#[98]⟩,⟨#[99]⟩],rows⟩
def exA:api_Table:=exT [⟨1,[exV 0,exV 0,exV 0]⟩,⟨2,[exV 0,exV 0,exV 1]⟩]
def Boq:q118_.C 3 [⟨1,2⟩] ⟨1,4⟩ (exA,0):=Ret.of (n:=300) (by kernel_rfl)
def Bor:q94_.C 3 [⟨1,2⟩] ⟨1,4⟩ (exA,0):=Ret.of (n:=300) (by kernel_rfl)
def Bos:q118_.C 3 [⟨1,2⟩] ⟨5,2⟩ (⟨⟨#[]⟩,[],[]⟩,10):=Ret.of (n:=300) (by kernel_rfl)
def Bot:q60_.C exA exA true:=Ret.of (n:=300) (by kernel_rfl)
def Al1{c a b:Prop}[Decidable c](h:c)(k:a):if c then a else b:=by rwa [if_pos h]
def Bjw{c a b:Prop}[Decidable c](h:¬c)(k:b):if c then a else b:=by rwa [if_neg h]
end Go.Own
namespace Go.Own
open Go.Proofs D
set_option maxRecDepth 100000
set_option maxHeartbeats 4000000
namespace q115_
def B:=bd Tryz.f21
def W:=[0,1,2,3,7,8,9,10,11,12,22,33]
def res(r:api_Table×Int):D×List D:=(.tup [.agg [tL r.1.Name,.own (r.1.Attrs.map eS),.own (r.1.Rows.map Aam)],iL r.2],[])
def C(x0:Int)(x1:List api_FD)(x2:List api_MVD)(x3:api_MVD)(r:api_Table×Int):Prop:=Ret env 21 [iL x0,.sl (x1.map Aa3),.sl (x2.map Aa4),.agg [uL x3.Lhs,uL x3.Rhs]] (res r).1 (res r).2
def nt(x0:Int)(x1:List api_FD)(x2:List api_MVD)(x3:api_MVD)(J:api_Table×Int->Prop)(h:∃r1:Int,q97_.C x0 x1 x2 x3.Lhs x3.Rhs r1/\(if r1=0 then ∃r2:Bool×Int,q65_.C x0 x1 x2 x3 r2/\(if r2.1=true then J ((⟨(⟨#[]⟩:ByteArray),[],[]⟩:api_Table),10)else ∃r3:List Int,q106_.C x0 x1 x2 x3.Lhs r3/\∃r4:api_Table,q103_.C x0 r3 r4/\J (r4,0))else J ((⟨(⟨#[]⟩:ByteArray),[],[]⟩:api_Table),r1))):∃r,J r/\C x0 x1 x2 x3 r:=mE Tryz.f21 B W res<|mCal 13 h (fun _ h=>h) fun r1 _ h=>Abr 4 h Abm Abl (fun h=>mRet 8 h) fun h=>mCal 8 h (fun _ h=>h) (hf:=(fun _=>Aak (Abq (Aa6 rfl (Aa6 rfl Aan))) rfl)) fun r2 _ h=>mAsk 7 h id fls (fun h=>mRet 7 h) fun h=>mCal 10 h (fun _ h=>h) (hf:=(fun _=>Aak (Aaj (e:=(eI .u32)) (fun _=>rfl)) rfl)) fun r3 _ h=>mCal 0 h (fun _ h=>h) (hr:=by exact(pr_k (Abs (Aba (s:=41) (ps:=[]) (l:=r3) (e:=(eI .u32)) (e':=(eI .u32)) (fun _=>rfl) (by kernel_rfl)) Ad2))) (hf:=(fun _=>Aak (Ag8 (Aa6 rfl (Aa6 (Aaj (e:=eS) (fun _=>rfl)) (Aa6 (Aaj (e:=Aam) (fun _=>(Aa6 rfl (Aa6 (Aaj (e:=Aa1) (fun _=>rfl)) Aan)))) Aan)))) rfl)) fun r4 _ h=>mRet 3 h
end q115_
namespace q82_
def B:=bd Tryz.f10
def W:=[0,1,3,4,5,6]
def res(r:Int×Int):D×List D:=(.tup [uL r.1,uL r.2],[])
def C(x0:Int)(x1:(Int×Int))(r:Int×Int):Prop:=Ret env 10 [iL x0,.agg [.lit (.int .u8 x1.1),.lit (.int .u8 x1.2)]] (res r).1 (res r).2
def nt(x0:Int)(x1:(Int×Int))(J:Int×Int->Prop)(h:∃r1:Int,q70_.C x0 r1/\J ((bAnd .u32 (IntKind.wrap .u32 x1.1) r1),(bAnd .u32 (IntKind.wrap .u32 x1.2) r1))):∃r,J r/\C x0 x1 r:=mE Tryz.f10 B W res<|mCal 7 h (fun _ h=>h) fun r1 _ h=>mRet 16 h
end q82_
namespace drosslaw20_RefuteMVD
def B:=bd Tryz.f6
def W:=[0,1,2,3,4,5,6,7,8,9,10,11,12,25,48]
def res(r:Bool):D×List D:=(bL r,[])
def C(x0:drossref13_Mixed)(x1:(Int×Int))(r:Bool):Prop:=Ret env 6 [.agg [.lit (.int .u8 x0.D.N),.sl (x0.D.L.map Aac),.sl (x0.M.map Aac)],.agg [.lit (.int .u8 x1.1),.lit (.int .u8 x1.2)]] (res r).1 (res r).2
def L1  (J:Bool->Prop):Prop:=Pt env 6 W B [1,1,0,1,0,0] [] (Lv env 6 Tryz.f6 2 res J)
def K1  (J:Bool->Prop) (h:∃r16:Bool,q66_.C  r16/\J r16):L1  J:=mIn<|mCal 1 h (fun _ h=>h) fun r16 _ h=>mRet 2 h
def nt(x0:drossref13_Mixed)(x1:(Int×Int))(J:Bool->Prop)(h:∃r9:Int×List api_FD×List api_MVD×Bool,q98_.C x0 r9/\∃r10:Bool,q66_.C  r10/\(if r10=true then(if r9.2.2.2=true then ∃r11:Int×Int,q82_.C r9.1 x1 r11/\∃r12:api_Table×Int,q115_.C r9.1 r9.2.1 r9.2.2.1 (⟨r11.1,r11.2⟩:api_MVD) r12/\∃r13:Bool,q37_.C r9.1 r9.2.1 r9.2.2.1 r11.1 r11.2 r13/\(if r13=true then(if r12.2=10 then J ((IntKind.wrap .i64 ((r12.1.Attrs.length:Int)+(r12.1.Rows.length:Int)))==0)else J false)else(if r12.2=0 then(if(r12.1.Attrs.length:Int)=r9.1 then ∃r14:Bool,q63_.C r12.1 r9.2.1 r9.2.2.1 (⟨r11.1,r11.2⟩:api_MVD) r14/\(if r14=true then ∃r15:Bool,q104_.C r12.1 r9.2.1 r9.2.2.1 (⟨r11.1,r11.2⟩:api_MVD) r15/\J r15 else J false)else J false)else J false))else L1  J)else L1  J)):∃r,J r/\C x0 x1 r:=mE Tryz.f6 B W res<|mCal 7 h (fun _ h=>h) (hf:=(fun _=>Ahn)) fun r9 _ h=>Ab3 11 h (fun _ h=>h) (fun _ h=>mAsk 2 h id fls (fun h=>mCal 8 h (fun _ h=>h) (hf:=(fun _=>Aak (Abq (Aa6 rfl (Aa6 rfl Aan))) rfl)) fun r11 _ h=>Ayg 13 h (fun _ h=>h) (fun(r12:api_Table×Int)=>Bhj rfl (Aca (Bdo (Aca rfl (Aca (Acj (e:=eS) (e':=eS) (fun _=>rfl) r12.1.Attrs) (Aca (Acj (e:=Aam) (e':=Aa2) (fun x=>(Aca rfl (Aca (Acj (e:=Aa1) (e':=Aa1) (fun _=>rfl) x.Values) Agq))) r12.1.Rows) Agq)))) (Aca rfl Agq))) (hf:=(fun _=>Aak (Abq (Aa6 (Ag8 (Aa6 rfl (Aa6 (Aaj (e:=eS) (fun _=>rfl)) (Aa6 (Aaj (e:=Aam) (fun _=>(Aa6 rfl (Aa6 (Aaj (e:=Aa1) (fun _=>rfl)) Aan)))) Aan)))) (Aa6 rfl Aan))) rfl)) fun r12 _ h=>
 Ab3 13 h (fun _ h=>h) (fun _ h=>mAsk 4 h Abd Abc (fun h=>mLen 3 eS r12.1.Attrs<|mLen 2 Aa2 r12.1.Rows<|mRet 5 h) fun h=>mRet 12 h) fun _ h=>mAsk 5 h Abd Abc (fun h=>mLen 3 eS r12.1.Attrs<|mAsk 1 h Abd Abc (fun h=>Ab3 8 h (fun _ h=>h) (fun _ h=>mCal 8 h (fun _ h=>h) fun r15 _ h=>mRet 3 h) fun _ h=>mRet 12 h) fun h=>mRet 21 h) fun h=>mRet 27 h) fun h=>mFin 4 h) fun _ h=>mFin 7 h
end drosslaw20_RefuteMVD
end Go.Own
end
