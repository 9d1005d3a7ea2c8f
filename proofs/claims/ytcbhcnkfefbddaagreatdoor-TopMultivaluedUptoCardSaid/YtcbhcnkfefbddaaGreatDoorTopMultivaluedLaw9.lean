/- What the functions answer. No conditions. -/
import Derived.Test.YtcbhcnkfefbddaaGreatDoorBase3
import Derived.Test.YtcbhcnkfefbddaaGreatDoorOwn23
set_option linter.all false
open List renaming pairwise_cons->aA,mem_of_getElem?->aM,mem_cons->aQ,replicate->a6,take->ba,length_cons->bL,getElem?_cons_succ->b3,length_map->b5,take_of_length_le->cc,take_add_one->cu,mem_append->cz,map_append->cx,getElem?_eq_some_iff->cD,mem_singleton->cT,filter_append->c_,getElem?_eq_getElem->dn,getElem?_append_right->dR,getElem?_map->eb,range->eW,take_length->fx,length_singleton->fB,set_append_right->gj,mem_iff_getElem?->gC,replicate_succ->fR,filter_eq_self->gD,drop->fW,set_cons_zero->hb,mem_map->hP,pairwise_map->hQ,filter_congr->hc,cons_append->hR,range_succ->ig,mem_filter->hq
open Option.some renaming inj->bo
open Int renaming tdiv->bB,toNat_natCast->du
open Classical renaming byContradiction->cA
open Bool renaming false_eq_true->hF
open Nat renaming le_refl->ie
noncomputable section
namespace Go.aS
open Go.Proofs D
set_option maxRecDepth 100000
set_option maxHeartbeats 4000000
namespace zt
def B:=cv Tryz.f118
def W:=[0,2]
def res(r:Bool):D×List D:=(dm r,[])
def C(ab:Int)(r:Bool):Prop:=bR env 118 [aq ab] (res r).1 (res r).2
def bj(ab:Int)(J:Bool->Prop)(h:J (ab != ab)):∃r,J r/\C ab r:=cw Tryz.f118 B W res<|a7 9 h
end zt
namespace vA
def B:=cv Tryz.f92
def W:=[0,1,4,5,6,11,12,13,16,19]
def res(r:Int):D×List D:=(aq r,[])
def C(ab ai r:Int):Prop:=bR env 92 [aq ab,aq ai] (res r).1 (res r).2
def bj(ab ai:Int)(J:Int->Prop)(h:∃r1:Bool,zt.C ab r1/\∃r2:Bool,zt.C ai r2/\(if r1=true then(if r2=true then J 0 else J (-1))else(if r2=true then J 1 else(if ab<ai then J (-1)else(if ai<ab then J 1 else J 0))))):∃r,J r/\C ab ai r:=cw Tryz.f92 B W res<|b4 5 h bD λr1 _ h=>b4 4 h bD λr2 _ h=>bn 3 h id iR (λh=>bn 3 h id iR (λh=>a7 5 h) λh=>a7 6 h) λh=>bn 4 h id iR (λh=>a7 5 h) λh=>bn 6 h bJ bI (λh=>a7 5 h) λh=>bn 6 h bJ bI (λh=>a7 5 h) λh=>a7 6 h
end vA
namespace jm
def B:=cv Tryz.f68
def W:=[0,1,4,5,6,7,8,9,10,11,12,19,28,35]
def res(r:Int):D×List D:=(aq r,[])
def C(ab ai:ay)(r:Int):Prop:=bR env 68 [.sl (ab.map bc),.sl (ai.map bc)] (res r).1 (res r).2
def aJ(ab ai:ay)(z0:Int)(J:Int->Prop):Prop:=ee env 68 W B [1,0,1,0] [(0,.sl (ab.map bc)),(1,.sl (ai.map bc)),(9,.sl (ab.map bc)),(10,aq (ab.length:Int)),(11,aq z0)] (ec env 68 Tryz.f68 2 res J)
def bE(ab ai:ay)(z0:Int)(J:Int->Prop)(h:(if z0<(ab.length:Int)then ∃a2,a_ ab z0=some a2/\(if(ai.length:Int)<=z0 then J 1 else ∃a3,a_ ai z0=some a3/\∃dw:Int,vA.C a2 a3 dw/\(if dw=0 then aJ ab ai (aV (z0+1)) J else J dw))else(if(ab.length:Int)<(ai.length:Int)then J (-1)else J 0))):aJ ab ai z0 J:=b2<|bn 2 h bJ bI (λh=>eA 5 bc h λa2 aa h=>c1 7 bc ai<|bn 0 h bJ bI (λh=>a7 5 h) λh=>eA 6 bc h λa3 aW h=>b4 6 h bD λdw _ h=>g5 4 h g4 g3 (λh=>a7 6 h) λh=>a1 7 h) λh=>c1 5 bc ab<|c1 1 bc ai<|bn 0 h bJ bI (λh=>a7 5 h) λh=>a7 6 h
def bj(ab ai:ay)(J:Int->Prop)(h:aJ ab ai 0 J):∃r,J r/\C ab ai r:=cw Tryz.f68 B W res<|c1 5 bc ab<|a1 2 h
end jm
namespace Fo
def B:=cv Tryz.f121
def W:=[0,1,2,3,8,9,14,34,1000000]
def res(r:aL):D×List D:=(.bt [],[.own (r.map aK)])
def C(ai ax:Int)(aF r:aL):Prop:=bR env 121 [.own (aF.map aK),aq ai,aq ax,.fn 68 []] (res r).1 (res r).2
def P(a:List Nat)(b:Fr)(J:aL->Prop):Prop:=ee env 121 W B a b (ec env 121 Tryz.f121 4 res J)
def aJ(ai ax z0:Int)(aF:aL)(J:aL->Prop):Prop:=P [1,0] [(0,.alias 1000000 []),(1,aq ai),(2,aq ax),(3,.fn 68 []),(8,aq z0),(1000000,.own (aF.map aK))] J
def bm(ai ax:Int)(z0 ar:Int)(aF:aL)(J:aL->Prop):Prop:=P [1,0,0,1,0,0,1,0] [(0,.alias 1000000 []),(1,aq ai),(2,aq ax),(3,.fn 68 []),(8,aq z0),(9,aq ar),(1000000,.own (aF.map aK))] J
def cd(ai ax z0:Int)(aF:aL)(J:aL->Prop):Prop:=P [1,0,0,1,1] [(0,.alias 1000000 []),(1,aq ai),(2,aq ax),(3,.fn 68 []),(8,aq z0),(1000000,.own (aF.map aK))] J
def bE(ai ax z0:Int)(aF:aL)(J:aL->Prop)(h:(if z0<ax then bm ai ax z0 z0 aF J else J aF)):aJ ai ax z0 aF J:=b2<|bn 4 h bJ bI (λh=>a1 7 h) λh=>a7 2 h
def cU(ai ax:Int)(z0 ar:Int)(aF:aL)(J:aL->Prop)(h:(if ai<ar then ∃a2,a_ aF ar=some a2/\∃a3,a_ aF (aV (ar-1))=some a3/\∃dw:Int,jm.C a2 a3 dw/\(if dw<0 then ∃eQ,a_ (b7 aF ar a3) (aV (ar-1))=some eQ/\bm ai ax z0 (aV (ar-1)) (b7 (b7 aF ar a3) (aV (ar-1)) a2) J else cd ai ax z0 aF J)else cd ai ax z0 aF J)):bm ai ax z0 ar aF J:=b2<|bn 4 h bJ bI (λh=>cG 4 aK h λa2 aa h=>cY 0 aK aa<|cG 3 aK h λa3 aW h=>cY 0 aK aW<|b4 0 h bD λdw _ h=>bn 0 h bJ bI (λh=>ic 13 aK aW<|cY 0 aK aW<|ic 2 aK aa<|cY 0 aK aa<|ic 0 aK aa<|nK 0 aK a3 aa<|cG 0 aK h λeQ gp h=>iI 0 aK a2 gp<|a1 6 h) λh=>a1 4 h) λh=>a1 17 h
def fp(ai ax z0:Int)(aF:aL)(J:aL->Prop)(h:aJ ai ax (aV (z0+1)) aF J):cd ai ax z0 aF J:=b2<|a1 5 h
def bj(ai ax:Int)(aF:aL)(J:aL->Prop)(h:aJ ai ax (aV (ai+1)) aF J):∃r,J r/\C ai ax aF r:=cw Tryz.f121 B W res<|a1 5 h
end Fo
namespace zq
def B:=cv Tryz.f136
def W:=[0,1,2,3,4,10,11,18,40,58,1000000]
def res(r:aL):D×List D:=(.bt [],[.own (r.map aK)])
def C(ai ax bb:Int)(aF r:aL):Prop:=bR env 136 [.own (aF.map aK),aq ai,aq ax,aq bb,.fn 68 []] (res r).1 (res r).2
def P(a:List Nat)(b:Fr)(J:aL->Prop):Prop:=ee env 136 W B a b (ec env 136 Tryz.f136 5 res J)
def aJ(ax bb ai:Int)(aF:aL)(J:aL->Prop):Prop:=P [1,0] [(0,.alias 1000000 []),(2,aq ax),(3,aq bb),(4,.fn 68 []),(10,aq ai),(1000000,.own (aF.map aK))] J
def bm(ax bb:Int)(ai z0:Int)(aF:aL)(J:aL->Prop):Prop:=P [1,0,0,0,1,1,1,0,0] [(0,.alias 1000000 []),(2,aq ax),(3,aq bb),(4,.fn 68 []),(10,aq ai),(11,aq z0),(1000000,.own (aF.map aK))] J
def bE(ax bb ai:Int)(aF:aL)(J:aL->Prop)(h:(if ax<=(aV ((aV (2*ai))+1))then J aF else(if(aV ((aV ((aV (2*ai))+1))+1))<ax then ∃a2,a_ aF (aV (bb+(aV ((aV (2*ai))+1))))=some a2/\∃a3,a_ aF (aV ((aV (bb+(aV ((aV (2*ai))+1))))+1))=some a3/\∃dw:Int,jm.C a2 a3 dw/\(if dw<0 then bm ax bb ai (aV ((aV ((aV (2*ai))+1))+1)) aF J else bm ax bb ai (aV ((aV (2*ai))+1)) aF J)else bm ax bb ai (aV ((aV (2*ai))+1)) aF J))):aJ ax bb ai aF J:=b2<|bn 10 h bJ bI (λh=>a7 2 h) λh=>bn 7 h bJ bI (λh=>cG 6 aK h λa2 aa h=>cY 0 aK aa<|cG 5 aK h λa3 aW h=>cY 0 aK aW<|b4 0 h bD λdw _ h=>bn 0 h bJ bI (λh=>a1 8 h) λh=>a1 4 h) λh=>a1 21 h
def cU(ax bb:Int)(ai z0:Int)(aF:aL)(J:aL->Prop)(h:∃eQ,a_ aF (aV (bb+ai))=some eQ/\∃hh,a_ aF (aV (bb+z0))=some hh/\∃jQ:Int,jm.C eQ hh jQ/\(if jQ<0 then ∃eY,a_ (b7 aF (aV (bb+ai)) hh) (aV (bb+z0))=some eY/\aJ ax bb z0 (b7 (b7 aF (aV (bb+ai)) hh) (aV (bb+z0)) eQ) J else J aF)):bm ax bb ai z0 aF J:=b2<|cG 6 aK h λeQ gp h=>cY 0 aK gp<|cG 4 aK h λhh jw h=>cY 0 aK jw<|b4 0 h bD λjQ _ h=>bn 0 h bJ bI (λh=>ic 17 aK jw<|cY 0 aK jw<|ic 4 aK gp<|cY 0 aK gp<|ic 0 aK gp<|nK 0 aK hh gp<|cG 0 aK h λeY lY h=>iI 0 aK eQ lY<|a1 5 h) λh=>a7 3 h
def bj(ai ax bb:Int)(aF:aL)(J:aL->Prop)(h:aJ ax bb ai aF J):∃r,J r/\C ai ax bb aF r:=cw Tryz.f136 B W res<|a1 4 h
end zq
namespace E_
def B:=cv Tryz.f122
def W:=[0,1,2,3,8,9,10,11,12,21,33,1000000]
def res(r:aL):D×List D:=(.bt [],[.own (r.map aK)])
def C(ai ax:Int)(aF r:aL):Prop:=bR env 122 [.own (aF.map aK),aq ai,aq ax,.fn 68 []] (res r).1 (res r).2
def P(a:List Nat)(b:Fr)(J:aL->Prop):Prop:=ee env 122 W B a b (ec env 122 Tryz.f122 4 res J)
def aJ(ai z0 ar:Int)(aF:aL)(J:aL->Prop):Prop:=P [1,1,1,0,1,0] [(0,.alias 1000000 []),(3,.fn 68 []),(8,aq ai),(9,aq 0),(10,aq z0),(11,aq ar),(1000000,.own (aF.map aK))] J
def bm(ai z0:Int)(aF:aL)(J:aL->Prop):Prop:=P [1,1,1,1,1,0] [(0,.alias 1000000 []),(3,.fn 68 []),(8,aq ai),(9,aq 0),(12,aq z0),(1000000,.own (aF.map aK))] J
def bE(ai z0 ar:Int)(aF:aL)(J:aL->Prop)(h:(if 0<=ar then ∃r1:aL,zq.C ar z0 ai aF r1/\aJ ai z0 (aV (ar-1)) r1 J else bm ai (aV (z0-1)) aF J)):aJ ai z0 ar aF J:=b2<|bn 3 h bJ bI (λh=>b4 9 h bD (hf:=(λ_=>h3)) λr1 _ h=>a1 6 h) λh=>a1 8 h
def cU(ai z0:Int)(aF:aL)(J:aL->Prop)(h:(if 0<=z0 then ∃bA,a_ aF (aV (ai+z0))=some bA/\∃a4,a_ aF ai=some a4/\∃eQ,a_ (b7 aF ai bA) (aV (ai+z0))=some eQ/\∃iX:aL,zq.C 0 z0 ai (b7 (b7 aF ai bA) (aV (ai+z0)) a4) iX/\bm ai (aV (z0-1)) iX J else J aF)):bm ai z0 aF J:=b2<|bn 3 h bJ bI (λh=>cG 14 aK h λbA aB h=>cY 0 aK aB<|cG 2 aK h λa4 bO h=>cY 0 aK bO<|ic 0 aK bO<|nK 0 aK bA bO<|cG 0 aK h λeQ gp h=>iI 0 aK a4 gp<|b4 7 h bD (hf:=(λ_=>h3)) λiX _ h=>a1 6 h) λh=>a7 2 h
def bj(ai ax:Int)(aF:aL)(J:aL->Prop)(h:aJ ai (aV (ax-ai)) (aV (bB (aV ((aV (ax-ai))-1)) 2)) aF J):∃r,J r/\C ai ax aF r:=cw Tryz.f122 B W res<|a1 19 h
end E_
namespace E7
def B:=cv Tryz.f126
def W:=[0,1,2,3,8,9,10,11,12,16,36,41,45,65,69,84,104,109,124,1000000]
def res(r:Bool×aL):D×List D:=(dm r.1,[.own (r.2.map aK)])
def C(ai ax:Int)(aF:aL)(r:Bool×aL):Prop:=bR env 126 [.own (aF.map aK),aq ai,aq ax,.fn 68 []] (res r).1 (res r).2
def P(a:List Nat)(b:Fr)(J:Bool×aL->Prop):Prop:=ee env 126 W B a b (ec env 126 Tryz.f126 4 res J)
def aJ(ai ax:Int)(z0 ar:Int)(aF:aL)(J:Bool×aL->Prop):Prop:=P [1,1,0,1,0] [(0,.alias 1000000 []),(1,aq ai),(2,aq ax),(3,.fn 68 []),(9,aq z0),(10,aq ar),(1000000,.own (aF.map aK))] J
def bm(ai ax:Int)(z0 ar:Int)(aF:aL)(J:Bool×aL->Prop):Prop:=P [1,1,0,1,0,0,1,0,0,0,0] [(0,.alias 1000000 []),(1,aq ai),(2,aq ax),(3,.fn 68 []),(9,aq z0),(10,aq ar),(1000000,.own (aF.map aK))] J
def h5(ai ax:Int)(z0 ar:Int)(aF:aL)(J:Bool×aL->Prop):Prop:=P [1,1,0,1,0,0,1,0,0,1,0,0] [(0,.alias 1000000 []),(1,aq ai),(2,aq ax),(3,.fn 68 []),(9,aq z0),(10,aq ar),(1000000,.own (aF.map aK))] J
def cd(ai ax:Int)(z0 ar aI:Int)(z3:aL)(J:Bool×aL->Prop):Prop:=P [1,1,0,1,0,0,1,0,0,1,1,1,1,0,1,0,1,0] [(0,.alias 1000000 []),(1,aq ai),(2,aq ax),(3,.fn 68 []),(9,aq z0),(10,aq ar),(11,aq aI),(1000000,.own (z3.map aK))] J
def js(ai ax:Int)(z0 ar:Int)(aI:aL)(J:Bool×aL->Prop):Prop:=P [1,1,0,1,0,0,1,0,0,1,1,1,1,1,0] [(0,.alias 1000000 []),(1,aq ai),(2,aq ax),(3,.fn 68 []),(9,aq z0),(10,aq ar),(1000000,.own (aI.map aK))] J
def fX(ai ax:Int)(z0 ar aI:Int)(z3:aL)(J:Bool×aL->Prop):Prop:=P [1,1,0,1,0,0,1,0,0,1,1,1,1,1,1,0,1,0] [(0,.alias 1000000 []),(1,aq ai),(2,aq ax),(3,.fn 68 []),(9,aq z0),(10,aq ar),(12,aq aI),(1000000,.own (z3.map aK))] J
def kj(ai ax:Int)(z0 ar:Int)(aI:aL)(J:Bool×aL->Prop):Prop:=P [1,1,0,1,0,0,1,1] [(0,.alias 1000000 []),(1,aq ai),(2,aq ax),(3,.fn 68 []),(9,aq z0),(10,aq ar),(1000000,.own (aI.map aK))] J
def bE(ai ax:Int)(z0 ar:Int)(aF:aL)(J:Bool×aL->Prop)(h:(if ar<5 then bm ai ax z0 ar aF J else J (false,aF))):aJ ai ax z0 ar aF J:=b2<|bn 3 h bJ bI (λh=>a1 3 h) λh=>a7 6 h
def cU(ai ax:Int)(z0 ar:Int)(aF:aL)(J:Bool×aL->Prop)(h:(if z0<ax then ∃a2,a_ aF z0=some a2/\∃a3,a_ aF (aV (z0-1))=some a3/\∃dw:Int,jm.C a2 a3 dw/\(if dw<0 then h5 ai ax z0 ar aF J else bm ai ax (aV (z0+1)) ar aF J)else h5 ai ax z0 ar aF J)):bm ai ax z0 ar aF J:=b2<|bn 4 h bJ bI (λh=>cG 4 aK h λa2 aa h=>cY 0 aK aa<|cG 3 aK h λa3 aW h=>cY 0 aK aW<|b4 0 h bD λdw _ h=>bn 0 h bJ bI (λh=>a1 5 h) λh=>a1 10 h) λh=>a1 18 h
def oB(ai ax:Int)(z0 ar:Int)(aF:aL)(J:Bool×aL->Prop)(h:(if z0=ax then J (true,aF)else(if(aV (ax-ai))<50 then J (false,aF)else ∃eQ,a_ aF (aV (z0-1))=some eQ/\∃hh,a_ aF z0=some hh/\∃j2,a_ (b7 aF z0 eQ) (aV (z0-1))=some j2/\(if 2<=(aV (z0-ai))then cd ai ax z0 ar (aV (z0-1)) (b7 (b7 aF z0 eQ) (aV (z0-1)) hh) J else js ai ax z0 ar (b7 (b7 aF z0 eQ) (aV (z0-1)) hh) J)))):h5 ai ax z0 ar aF J:=b2<|bn 3 h g2 g1 (λh=>a7 5 h) λh=>bn 7 h bJ bI (λh=>a7 5 h) λh=>cG 12 aK h λeQ gp h=>cY 0 aK gp<|cG 2 aK h λhh jw h=>cY 0 aK jw<|ic 0 aK jw<|nK 0 aK eQ jw<|cG 0 aK h λj2 oJ h=>iI 0 aK hh oJ<|bn 5 h bJ bI (λh=>a1 7 h) λh=>a1 3 h
def fp(ai ax:Int)(z0 ar aI:Int)(z3:aL)(J:Bool×aL->Prop)(h:(if 1<=aI then ∃kV,a_ z3 aI=some kV/\∃jh,a_ z3 (aV (aI-1))=some jh/\∃nt:Int,jm.C kV jh nt/\(if nt<0 then ∃oG,a_ (b7 z3 aI jh) (aV (aI-1))=some oG/\cd ai ax z0 ar (aV (aI-1)) (b7 (b7 z3 aI jh) (aV (aI-1)) kV) J else js ai ax z0 ar z3 J)else js ai ax z0 ar z3 J)):cd ai ax z0 ar aI z3 J:=b2<|bn 3 h bJ bI (λh=>cG 7 aK h λkV jv h=>cY 0 aK jv<|cG 3 aK h λjh pz h=>cY 0 aK pz<|b4 0 h bD λnt _ h=>bn 0 h bJ bI (λh=>ic 13 aK pz<|cY 0 aK pz<|ic 2 aK jv<|cY 0 aK jv<|ic 0 aK jv<|nK 0 aK jh jv<|cG 0 aK h λoG yJ h=>iI 0 aK kV yJ<|a1 6 h) λh=>a1 4 h) λh=>a1 3 h
def uH(ai ax:Int)(z0 ar:Int)(aI:aL)(J:Bool×aL->Prop)(h:(if 2<=(aV (ax-z0))then fX ai ax z0 ar (aV (z0+1)) aI J else kj ai ax z0 ar aI J)):js ai ax z0 ar aI J:=b2<|bn 4 h bJ bI (λh=>a1 7 h) λh=>a1 3 h
def kT(ai ax:Int)(z0 ar aI:Int)(z3:aL)(J:Bool×aL->Prop)(h:(if aI<ax then ∃nT,a_ z3 aI=some nT/\∃qs,a_ z3 (aV (aI-1))=some qs/\∃PC:Int,jm.C nT qs PC/\(if PC<0 then ∃UW,a_ (b7 z3 aI qs) (aV (aI-1))=some UW/\fX ai ax z0 ar (aV (aI+1)) (b7 (b7 z3 aI qs) (aV (aI-1)) nT) J else kj ai ax z0 ar z3 J)else kj ai ax z0 ar z3 J)):fX ai ax z0 ar aI z3 J:=b2<|bn 4 h bJ bI (λh=>cG 7 aK h λnT n3 h=>cY 0 aK n3<|cG 3 aK h λqs rM h=>cY 0 aK rM<|b4 0 h bD λPC _ h=>bn 0 h bJ bI (λh=>ic 13 aK rM<|cY 0 aK rM<|ic 2 aK n3<|cY 0 aK n3<|ic 0 aK n3<|nK 0 aK qs n3<|cG 0 aK h λUW D3 h=>iI 0 aK nT D3<|a1 6 h) λh=>a1 4 h) λh=>a1 3 h
def sR(ai ax:Int)(z0 ar:Int)(aI:aL)(J:Bool×aL->Prop)(h:aJ ai ax z0 (aV (ar+1)) aI J):kj ai ax z0 ar aI J:=b2<|a1 5 h
def bj(ai ax:Int)(aF:aL)(J:Bool×aL->Prop)(h:aJ ai ax (aV (ai+1)) 0 aF J):∃r,J r/\C ai ax aF r:=cw Tryz.f126 B W res<|a1 11 h
end E7
namespace E9
def B:=cv Tryz.f128
def W:=[0,1,2,3,4,10,11,12,13,47,66,71,120,139,144,1000000]
def res(r:Int×Bool×aL):D×List D:=(.bt [aq r.1,dm r.2.1],[.own (r.2.2.map aK)])
def C(ai ax bb:Int)(aF:aL)(r:Int×Bool×aL):Prop:=bR env 128 [.own (aF.map aK),aq ai,aq ax,aq bb,.fn 68 []] (res r).1 (res r).2
def P(a:List Nat)(b:Fr)(J:Int×Bool×aL->Prop):Prop:=ee env 128 W B a b (ec env 128 Tryz.f128 5 res J)
def aJ(ai z0 ar:Int)(aI:aL)(J:Int×Bool×aL->Prop):Prop:=P [1,1,1,0,0] [(0,.alias 1000000 []),(1,aq ai),(4,.fn 68 []),(12,aq z0),(13,aq ar),(1000000,.own (aI.map aK))] J
def bm(ai z0 ar:Int)(aI:aL)(J:Int×Bool×aL->Prop):Prop:=P [1,1,1,1,0,0] [(0,.alias 1000000 []),(1,aq ai),(4,.fn 68 []),(12,aq z0),(13,aq ar),(1000000,.own (aI.map aK))] J
def fX(ai z0 ar:Int)(aI:aL)(J:Int×Bool×aL->Prop):Prop:=P [1,1,1,1,1,0,0] [(0,.alias 1000000 []),(1,aq ai),(4,.fn 68 []),(12,aq z0),(13,aq ar),(1000000,.own (aI.map aK))] J
def cd(ai z0 ar:Int)(aI:aL)(J:Int×Bool×aL->Prop):Prop:=P [1,1,1,1,1,1,1,1,1,0,0] [(0,.alias 1000000 []),(1,aq ai),(4,.fn 68 []),(12,aq z0),(13,aq ar),(1000000,.own (aI.map aK))] J
def h5(ai z0 ar:Int)(aI:aL)(J:Int×Bool×aL->Prop):Prop:=P [1,1,1,1,1,1,1,1,1,0,0,0,0,0,0] [(0,.alias 1000000 []),(1,aq ai),(4,.fn 68 []),(12,aq z0),(13,aq ar),(1000000,.own (aI.map aK))] J
def js(ai z0 ar:Int)(aI:aL)(J:Int×Bool×aL->Prop):Prop:=P [1,1,1,1,1,1,1,1,1,0,0,0,0,1,0,0] [(0,.alias 1000000 []),(1,aq ai),(4,.fn 68 []),(12,aq z0),(13,aq ar),(1000000,.own (aI.map aK))] J
def kj(ai z0 ar:Int)(aI:aL)(J:Int×Bool×aL->Prop):Prop:=P [1,1,1,1,1,1,1,1,1,0,0,0,0,1,1,0,0] [(0,.alias 1000000 []),(1,aq ai),(4,.fn 68 []),(12,aq z0),(13,aq ar),(1000000,.own (aI.map aK))] J
def bE(ai z0 ar:Int)(aI:aL)(J:Int×Bool×aL->Prop)(h:(if z0<=ar then ∃cX,a_ aI z0=some cX/\∃a9,a_ aI ai=some a9/\∃o1:Int,jm.C cX a9 o1/\(if o1<0 then aJ ai (aV (z0+1)) ar aI J else bm ai z0 ar aI J)else bm ai z0 ar aI J)):aJ ai z0 ar aI J:=b2<|bn 4 h bJ bI (λh=>cG 4 aK h λcX dL h=>cY 0 aK dL<|cG 2 aK h λa9 py h=>cY 0 aK py<|b4 0 h bD λo1 _ h=>bn 0 h bJ bI (λh=>a1 9 h) λh=>a1 4 h) λh=>a1 16 h
def cU(ai z0 ar:Int)(aI:aL)(J:Int×Bool×aL->Prop)(h:(if z0<=ar then ∃kV,a_ aI ar=some kV/\∃jh,a_ aI ai=some jh/\∃nt:Int,jm.C kV jh nt/\(if nt<0 then fX ai z0 ar aI J else bm ai z0 (aV (ar-1)) aI J)else fX ai z0 ar aI J)):bm ai z0 ar aI J:=b2<|bn 4 h bJ bI (λh=>cG 4 aK h λkV jv h=>cY 0 aK jv<|cG 2 aK h λjh pz h=>cY 0 aK pz<|b4 0 h bD λnt _ h=>bn 0 h bJ bI (λh=>a1 5 h) λh=>a1 10 h) λh=>a1 17 h
def kT(ai z0 ar:Int)(aI:aL)(J:Int×Bool×aL->Prop)(h:(if ar<z0 then ∃oG,a_ aI ai=some oG/\∃nT,a_ aI ar=some nT/\∃qs,a_ (b7 aI ar oG) ai=some qs/\J (ar,true,(b7 (b7 aI ar oG) ai nT))else ∃a23,a_ aI ar=some a23/\∃a25,a_ aI z0=some a25/\∃UX,a_ (b7 aI z0 a23) ar=some UX/\cd ai (aV (z0+1)) (aV (ar-1)) (b7 (b7 aI z0 a23) ar a25) J)):fX ai z0 ar aI J:=b2<|bn 3 h bJ bI (λh=>cG 9 aK h λoG yJ h=>cY 0 aK yJ<|cG 2 aK h λnT n3 h=>cY 0 aK n3<|ic 0 aK n3<|nK 0 aK oG n3<|cG 0 aK h λqs rM h=>iI 0 aK nT rM<|a7 6 h) λh=>cG 10 aK h λa23 w6 h=>cY 0 aK w6<|cG 2 aK h λa25 s8 h=>cY 0 aK s8<|ic 0 aK s8<|nK 0 aK a23 s8<|cG 0 aK h λUX AV h=>iI 0 aK a25 AV<|a1 11 h
def fp(ai z0 ar:Int)(aI:aL)(J:Int×Bool×aL->Prop)(h:h5 ai z0 ar aI J):cd ai z0 ar aI J:=b2<|a1 1 h
def oB(ai z0 ar:Int)(aI:aL)(J:Int×Bool×aL->Prop)(h:(if z0<=ar then ∃MD,a_ aI z0=some MD/\∃ME,a_ aI ai=some ME/\∃PD:Int,jm.C MD ME PD/\(if PD<0 then h5 ai (aV (z0+1)) ar aI J else js ai z0 ar aI J)else js ai z0 ar aI J)):h5 ai z0 ar aI J:=b2<|bn 4 h bJ bI (λh=>cG 4 aK h λMD ahW h=>cY 0 aK ahW<|cG 2 aK h λME uY h=>cY 0 aK uY<|b4 0 h bD λPD _ h=>bn 0 h bJ bI (λh=>a1 9 h) λh=>a1 4 h) λh=>a1 16 h
def uH(ai z0 ar:Int)(aI:aL)(J:Int×Bool×aL->Prop)(h:(if z0<=ar then ∃MF,a_ aI ar=some MF/\∃MG,a_ aI ai=some MG/\∃PE:Int,jm.C MF MG PE/\(if PE<0 then kj ai z0 ar aI J else js ai z0 (aV (ar-1)) aI J)else kj ai z0 ar aI J)):js ai z0 ar aI J:=b2<|bn 4 h bJ bI (λh=>cG 4 aK h λMF ahX h=>cY 0 aK ahX<|cG 2 aK h λMG ahY h=>cY 0 aK ahY<|b4 0 h bD λPE _ h=>bn 0 h bJ bI (λh=>a1 5 h) λh=>a1 10 h) λh=>a1 17 h
def sR(ai z0 ar:Int)(aI:aL)(J:Int×Bool×aL->Prop)(h:(if ar<z0 then ∃DC,a_ aI ai=some DC/\∃HB,a_ aI ar=some HB/\∃UY,a_ (b7 aI ar DC) ai=some UY/\J (ar,false,(b7 (b7 aI ar DC) ai HB))else ∃DD,a_ aI ar=some DD/\∃HC,a_ aI z0=some HC/\∃UZ,a_ (b7 aI z0 DD) ar=some UZ/\cd ai (aV (z0+1)) (aV (ar-1)) (b7 (b7 aI z0 DD) ar HC) J)):kj ai z0 ar aI J:=b2<|bn 3 h bJ bI (λh=>cG 10 aK h λDC ahZ h=>cY 0 aK ahZ<|cG 2 aK h λHB Ng h=>cY 0 aK Ng<|ic 0 aK Ng<|nK 0 aK DC Ng<|cG 0 aK h λUY ah0 h=>iI 0 aK HB ah0<|a7 6 h) λh=>cG 10 aK h λDD ah1 h=>cY 0 aK ah1<|cG 2 aK h λHC Nh h=>cY 0 aK Nh<|ic 0 aK Nh<|nK 0 aK DD Nh<|cG 0 aK h λUZ D4 h=>iI 0 aK HC D4<|a1 11 h
def bj(ai ax bb:Int)(aF:aL)(J:Int×Bool×aL->Prop)(h:∃a2,a_ aF bb=some a2/\∃a3,a_ aF ai=some a3/\∃cj,a_ (b7 aF ai a2) bb=some cj/\aJ ai (aV (ai+1)) (aV (ax-1)) (b7 (b7 aF ai a2) bb a3) J):∃r,J r/\C ai ax bb aF r:=cw Tryz.f128 B W res<|cG 11 aK h λa2 aa h=>cY 0 aK aa<|cG 2 aK h λa3 aW h=>cY 0 aK aW<|ic 0 aK aW<|nK 0 aK a2 aW<|cG 0 aK h λcj c7 h=>iI 0 aK a3 c7<|a1 9 h
end E9
namespace Ff
def B:=cv Tryz.f127
def W:=[0,1,2,3,4,10,11,12,47,65,70,1000000]
def res(r:Int×aL):D×List D:=(aq r.1,[.own (r.2.map aK)])
def C(ai ax bb:Int)(aF:aL)(r:Int×aL):Prop:=bR env 127 [.own (aF.map aK),aq ai,aq ax,aq bb,.fn 68 []] (res r).1 (res r).2
def P(a:List Nat)(b:Fr)(J:Int×aL->Prop):Prop:=ee env 127 W B a b (ec env 127 Tryz.f127 5 res J)
def aJ(ai z0 ar:Int)(aI:aL)(J:Int×aL->Prop):Prop:=P [1,1,1,0,0] [(0,.alias 1000000 []),(1,aq ai),(4,.fn 68 []),(11,aq z0),(12,aq ar),(1000000,.own (aI.map aK))] J
def bm(ai z0 ar:Int)(aI:aL)(J:Int×aL->Prop):Prop:=P [1,1,1,0,0,0,0,0,0] [(0,.alias 1000000 []),(1,aq ai),(4,.fn 68 []),(11,aq z0),(12,aq ar),(1000000,.own (aI.map aK))] J
def cd(ai z0 ar:Int)(aI:aL)(J:Int×aL->Prop):Prop:=P [1,1,1,0,0,0,0,1,0,0] [(0,.alias 1000000 []),(1,aq ai),(4,.fn 68 []),(11,aq z0),(12,aq ar),(1000000,.own (aI.map aK))] J
def fX(ai z0 ar:Int)(aI:aL)(J:Int×aL->Prop):Prop:=P [1,1,1,0,0,0,0,1,1,0,0] [(0,.alias 1000000 []),(1,aq ai),(4,.fn 68 []),(11,aq z0),(12,aq ar),(1000000,.own (aI.map aK))] J
def bE(ai z0 ar:Int)(aI:aL)(J:Int×aL->Prop)(h:bm ai z0 ar aI J):aJ ai z0 ar aI J:=b2<|a1 1 h
def cU(ai z0 ar:Int)(aI:aL)(J:Int×aL->Prop)(h:(if z0<=ar then ∃cX,a_ aI ai=some cX/\∃a9,a_ aI z0=some a9/\∃o1:Int,jm.C cX a9 o1/\(if o1<0 then cd ai z0 ar aI J else bm ai (aV (z0+1)) ar aI J)else cd ai z0 ar aI J)):bm ai z0 ar aI J:=b2<|bn 4 h bJ bI (λh=>cG 4 aK h λcX dL h=>cY 0 aK dL<|cG 2 aK h λa9 py h=>cY 0 aK py<|b4 0 h bD λo1 _ h=>bn 0 h bJ bI (λh=>a1 5 h) λh=>a1 10 h) λh=>a1 17 h
def fp(ai z0 ar:Int)(aI:aL)(J:Int×aL->Prop)(h:(if z0<=ar then ∃kV,a_ aI ai=some kV/\∃jh,a_ aI ar=some jh/\∃nt:Int,jm.C kV jh nt/\(if nt<0 then cd ai z0 (aV (ar-1)) aI J else fX ai z0 ar aI J)else fX ai z0 ar aI J)):cd ai z0 ar aI J:=b2<|bn 4 h bJ bI (λh=>cG 4 aK h λkV jv h=>cY 0 aK jv<|cG 2 aK h λjh pz h=>cY 0 aK pz<|b4 0 h bD λnt _ h=>bn 0 h bJ bI (λh=>a1 9 h) λh=>a1 4 h) λh=>a1 16 h
def kT(ai z0 ar:Int)(aI:aL)(J:Int×aL->Prop)(h:(if ar<z0 then J (z0,aI)else ∃oG,a_ aI ar=some oG/\∃nT,a_ aI z0=some nT/\∃qs,a_ (b7 aI z0 oG) ar=some qs/\aJ ai (aV (z0+1)) (aV (ar-1)) (b7 (b7 aI z0 oG) ar nT) J)):fX ai z0 ar aI J:=b2<|bn 3 h bJ bI (λh=>a7 7 h) λh=>cG 10 aK h λoG yJ h=>cY 0 aK yJ<|cG 2 aK h λnT n3 h=>cY 0 aK n3<|ic 0 aK n3<|nK 0 aK oG n3<|cG 0 aK h λqs rM h=>iI 0 aK nT rM<|a1 11 h
def bj(ai ax bb:Int)(aF:aL)(J:Int×aL->Prop)(h:∃a2,a_ aF bb=some a2/\∃a3,a_ aF ai=some a3/\∃cj,a_ (b7 aF ai a2) bb=some cj/\aJ ai (aV (ai+1)) (aV (ax-1)) (b7 (b7 aF ai a2) bb a3) J):∃r,J r/\C ai ax bb aF r:=cw Tryz.f127 B W res<|cG 10 aK h λa2 aa h=>cY 0 aK aa<|cG 2 aK h λa3 aW h=>cY 0 aK aW<|ic 0 aK aW<|nK 0 aK a2 aW<|cG 0 aK h λcj c7 h=>iI 0 aK a3 c7<|a1 9 h
end Ff
namespace sm
def B:=cv Tryz.f125
def W:=[0,1,2,3,8,9,15,1000000]
def res(r:aL):D×List D:=(.bt [],[.own (r.map aK)])
def C(ai ax:Int)(aF r:aL):Prop:=bR env 125 [.own (aF.map aK),aq ai,aq ax,.fn 68 []] (res r).1 (res r).2
def aJ(ai z0:Int)(aF:aL)(J:aL->Prop):Prop:=ee env 125 W B [1,1,0] [(0,.alias 1000000 []),(8,aq ai),(9,aq z0),(1000000,.own (aF.map aK))] (ec env 125 Tryz.f125 4 res J)
def bE(ai z0:Int)(aF:aL)(J:aL->Prop)(h:(if ai<z0 then ∃a2,a_ aF z0=some a2/\∃a3,a_ aF ai=some a3/\∃cj,a_ (b7 aF ai a2) z0=some cj/\aJ (aV (ai+1)) (aV (z0-1)) (b7 (b7 aF ai a2) z0 a3) J else J aF)):aJ ai z0 aF J:=b2<|bn 4 h bJ bI (λh=>cG 10 aK h λa2 aa h=>cY 0 aK aa<|cG 2 aK h λa3 aW h=>cY 0 aK aW<|ic 0 aK aW<|nK 0 aK a2 aW<|cG 0 aK h λcj c7 h=>iI 0 aK a3 c7<|a1 11 h) λh=>a7 2 h
def bj(ai ax:Int)(aF:aL)(J:aL->Prop)(h:aJ ai (aV (ax-1)) aF J):∃r,J r/\C ai ax aF r:=cw Tryz.f125 B W res<|a1 9 h
end sm
namespace vw
def B:=cv Tryz.f140
def W:=[0,1,2,3,4,10,11,22,1000003]
def res(r:Int×Int×Int):D×List D:=(.bt [aq r.1,aq r.2.1],[.box [aq r.2.2]])
def C(ab:aL)(ai ax EO:Int)(r:Int×Int×Int):Prop:=bR env 140 [.sl (ab.map aK),aq ai,aq ax,.box [aq EO],.fn 68 []] (res r).1 (res r).2
def bj(ab:aL)(ai ax EO:Int)(J:Int×Int×Int->Prop)(h:∃a2,a_ ab ax=some a2/\∃a3,a_ ab ai=some a3/\∃dw:Int,jm.C a2 a3 dw/\(if dw<0 then J (ax,ai,(aV (EO+1)))else J (ai,ax,EO))):∃r,J r/\C ab ai ax EO r:=cw Tryz.f140 B W res<|eA 8 aK h λa2 aa h=>eA 3 aK h λa3 aW h=>b4 1 h bD λdw _ h=>bn 0 h bJ bI (λh=>a7 16 h) λh=>a7 9 h
end vw
namespace xx
def B:=cv Tryz.f138
def W:=[0,1,2,3,4,5,12,1000004]
def res(r:Int×Int):D×List D:=(aq r.1,[.box [aq r.2]])
def C(ab:aL)(ai ax:Int)(bb IQ:Int)(r:Int×Int):Prop:=bR env 138 [.sl (ab.map aK),aq ai,aq ax,aq bb,.box [aq IQ],.fn 68 []] (res r).1 (res r).2
def bj(ab:aL)(ai ax:Int)(bb IQ:Int)(J:Int×Int->Prop)(h:∃r1:Int×Int×Int,vw.C ab ai ax IQ r1/\∃r2:Int×Int×Int,vw.C ab r1.2.1 bb r1.2.2 r2/\∃bx:Int×Int×Int,vw.C ab r1.1 r2.1 r2.2.2 bx/\J (bx.2.1,bx.2.2)):∃r,J r/\C ab ai ax bb IQ r:=cw Tryz.f138 B W res<|b4 9 h bD (hf:=(λ_=>h3)) λr1 _ h=>b4 12 h bD (hf:=(λ_=>h3)) λr2 _ h=>b4 12 h bD (hf:=(λ_=>h3)) λbx _ h=>a7 10 h
end xx
namespace tA
def B:=cv Tryz.f137
def W:=[0,1,2,3,8,1000002]
def res(r:Int×Int):D×List D:=(aq r.1,[.box [aq r.2]])
def C(ab:aL)(ai vk:Int)(r:Int×Int):Prop:=bR env 137 [.sl (ab.map aK),aq ai,.box [aq vk],.fn 68 []] (res r).1 (res r).2
def bj(ab:aL)(ai vk:Int)(J:Int×Int->Prop)(h:∃r1:Int×Int,xx.C ab (aV (ai-1)) ai (aV (ai+1)) vk r1/\J (r1.1,r1.2)):∃r,J r/\C ab ai vk r:=cw Tryz.f137 B W res<|b4 12 h bD λr1 _ h=>a7 2 h
end tA
namespace tE
def B:=cv Tryz.f124
def W:=[0,1,2,3,8,9,10,11,12,13,14,34,36,55,57,60]
def res(r:Int×Int):D×List D:=(.bt [aq r.1,aq r.2],[])
def C(ab:aL)(ai ax:Int)(r:Int×Int):Prop:=bR env 124 [.sl (ab.map aK),aq ai,aq ax,.fn 68 []] (res r).1 (res r).2
def P(a:List Nat)(b:Fr)(J:Int×Int->Prop):Prop:=ee env 124 W B a b (ec env 124 Tryz.f124 4 res J)
def aJ(ab:aL)(z0 ar:Int)(aI z3:Int)(J:Int×Int->Prop):Prop:=P [1,1,1,1,1,1,0,1,0,1] [(0,.sl (ab.map aK)),(3,.fn 68 []),(11,.box [aq z0]),(12,aq ar),(13,aq aI),(14,aq z3)] J
def bm(z0 ar:Int)(J:Int×Int->Prop):Prop:=P [1,1,1,1,1,1,1,0] [(11,.box [aq z0]),(13,aq ar)] J
def bE(ab:aL)(z0 ar:Int)(aI z3:Int)(J:Int×Int->Prop)(h:∃dv:Int×Int,xx.C ab ar aI z3 z0 dv/\bm dv.2 dv.1 J):aJ ab z0 ar aI z3 J:=b2<|b4 6 h bD λdv _ h=>a1 2 h
def cU(z0 ar:Int)(J:Int×Int->Prop)(h:(if z0=0 then J (ar,1)else(if z0=12 then J (ar,2)else J (ar,0)))):bm z0 ar J:=b2<|oV 7 h g2 g1 (λh=>a7 5 h) λh=>oV 4 h g2 g1 (λh=>a7 5 h) λh=>a7 5 h
def bj(ab:aL)(ai ax:Int)(J:Int×Int->Prop)(h:(if 8<=(aV (ax-ai))then(if 50<=(aV (ax-ai))then ∃r1:Int×Int,tA.C ab (aV (ai+(aV ((aV (bB (aV (ax-ai)) 4))*1)))) 0 r1/\∃r2:Int×Int,tA.C ab (aV (ai+(aV ((aV (bB (aV (ax-ai)) 4))*2)))) r1.2 r2/\∃bx:Int×Int,tA.C ab (aV (ai+(aV ((aV (bB (aV (ax-ai)) 4))*3)))) r2.2 bx/\aJ ab bx.2 r1.1 r2.1 bx.1 J else aJ ab 0 (aV (ai+(aV ((aV (bB (aV (ax-ai)) 4))*1)))) (aV (ai+(aV ((aV (bB (aV (ax-ai)) 4))*2)))) (aV (ai+(aV ((aV (bB (aV (ax-ai)) 4))*3)))) J)else bm 0 (aV (ai+(aV ((aV (bB (aV (ax-ai)) 4))*2)))) J)):∃r,J r/\C ab ai ax r:=cw Tryz.f124 B W res<|bn 39 h bJ bI (λh=>bn 4 h bJ bI (λh=>b4 6 h bD λr1 _ h=>b4 6 h bD λr2 _ h=>b4 6 h bD λbx _ h=>a1 2 h) λh=>a1 3 h) λh=>a1 3 h
end tE
namespace Fm
def B:=cv Tryz.f117
def W:=[0,2,4,8,14]
def res(r:Int):D×List D:=(aq r,[])
def C(ab r:Int):Prop:=bR env 117 [.lit (.int .u64 ab)] (res r).1 (res r).2
def P(a:List Nat)(b:Fr)(J:Int->Prop):Prop:=ee env 117 W B a b (ec env 117 Tryz.f117 1 res J)
def cd(z0 ar:Int)(J:Int->Prop):Prop:=P [1,1,0,0] [(0,.lit (.int .u64 z0)),(2,aq ar)] J
def bm(z0 ar:Int)(J:Int->Prop):Prop:=P [1,1,1,0,0] [(0,.lit (.int .u64 z0)),(2,aq ar)] J
def aJ(z0 ar:Int)(J:Int->Prop):Prop:=P [1,1,1,1,0] [(0,.lit (.int .u64 z0)),(2,aq ar)] J
def fp(z0 ar:Int)(J:Int->Prop)(h:(if 65536<=z0 then bm (ft .u64 z0 16) (aV (ar+16)) J else bm z0 ar J)):cd z0 ar J:=b2<|bn 2 h bJ bI (λh=>a1 12 h) λh=>a1 3 h
def cU(z0 ar:Int)(J:Int->Prop)(h:(if 256<=z0 then aJ (ft .u64 z0 8) (aV (ar+8)) J else aJ z0 ar J)):bm z0 ar J:=b2<|bn 2 h bJ bI (λh=>a1 12 h) λh=>a1 3 h
def bE(z0 ar:Int)(J:Int->Prop)(h:∃cb,((0:Int)<=(IntKind.wrap .u8 z0)/\(⟨#[0,1,2,2,3,3,3,3,4,4,4,4,4,4,4,4,5,5,5,5,5,5,5,5,5,5,5,5,5,5,5,5,6,6,6,6,6,6,6,6,6,6,6,6,6,6,6,6,6,6,6,6,6,6,6,6,6,6,6,6,6,6,6,6,7,7,7,7,7,7,7,7,7,7,7,7,7,7,7,7,7,7,7,7,7,7,7,7,7,7,7,7,7,7,7,7,7,7,7,7,7,7,7,7,7,7,7,7,7,7,7,7,7,7,7,7,7,7,7,7,7,7,7,7,7,7,7,7,8,8,8,8,8,8,8,8,8,8,8,8,8,8,8,8,8,8,8,8,8,8,8,8,8,8,8,8,8,8,8,8,8,8,8,8,8,8,8,8,8,8,8,8,8,8,8,8,8,8,8,8,8,8,8,8,8,8,8,8,8,8,8,8,8,8,8,8,8,8,8,8,8,8,8,8,8,8,8,8,8,8,8,8,8,8,8,8,8,8,8,8,8,8,8,8,8,8,8,8,8,8,8,8,8,8,8,8,8,8,8,8,8,8,8,8,8,8,8,8,8,8,8,8,8,8,8,8]⟩:ByteArray)[(IntKind.wrap .u8 z0).toNat]?=some cb)/\J (aV (ar+(aV (eN cb))))):aJ z0 ar J:=b2<|xp 4 h λcb h=>a7 4 h
def bj(ab:Int)(J:Int->Prop)(h:(if 4294967296<=ab then cd (ft .u64 ab 32) 32 J else cd ab 0 J)):∃r,J r/\C ab r:=cw Tryz.f117 B W res<|bn 5 h bJ bI (λh=>a1 10 h) λh=>a1 3 h
end Fm
namespace tC
def B:=cv Tryz.f90
def W:=[0,2]
def res(r:Int):D×List D:=(aq r,[])
def C(ab r:Int):Prop:=bR env 90 [.lit (.int .u64 ab)] (res r).1 (res r).2
def bj(ab:Int)(J:Int->Prop)(h:∃r1:Int,Fm.C ab r1/\J r1):∃r,J r/\C ab r:=cw Tryz.f90 B W res<|b4 7 h bD λr1 _ h=>a7 2 h
end tC
namespace Jb
def B:=cv Tryz.f132
def W:=[0,2]
def res(r:Int):D×List D:=(.lit (.int .u64 r),[])
def C(ab r:Int):Prop:=bR env 132 [aq ab] (res r).1 (res r).2
def bj(ab:Int)(J:Int->Prop)(h:∃r1:Int,tC.C (IntKind.wrap .u64 ab) r1/\0<=r1/\J (jo .u64 1 r1)):∃r,J r/\C ab r:=cw Tryz.f132 B W res<|b4 6 h bD λr1 _ h=>h.elim λaa h=>ma 0 (Ad (t:=165) (q:=.u64) (q':=.i64) (i1:=1) aa)<|a7 2 h
end Jb
namespace Jc
def B:=cv Tryz.f133
def W:=[0,2,1000000]
def res(r:Int×Int):D×List D:=(.lit (.int .u64 r.1),[.box [.lit (.int .u64 r.2)]])
def C(aF:Int)(r:Int×Int):Prop:=bR env 133 [.box [.lit (.int .u64 aF)]] (res r).1 (res r).2
def bj(aF:Int)(J:Int×Int->Prop)(h:J ((jF .u64 (jF .u64 (jF .u64 aF (jo .u64 aF 13)) (ft .u64 (jF .u64 aF (jo .u64 aF 13)) 7)) (jo .u64 (jF .u64 (jF .u64 aF (jo .u64 aF 13)) (ft .u64 (jF .u64 aF (jo .u64 aF 13)) 7)) 17)),(jF .u64 (jF .u64 (jF .u64 aF (jo .u64 aF 13)) (ft .u64 (jF .u64 aF (jo .u64 aF 13)) 7)) (jo .u64 (jF .u64 (jF .u64 aF (jo .u64 aF 13)) (ft .u64 (jF .u64 aF (jo .u64 aF 13)) 7)) 17)))):∃r,J r/\C aF r:=cw Tryz.f133 B W res<|a7 45 h
end Jc
namespace Fp
def B:=cv Tryz.f123
def W:=[0,1,2,3,8,9,10,11,12,17,35,45,1000000]
def res(r:aL):D×List D:=(.bt [],[.own (r.map aK)])
def C(ai ax:Int)(aF r:aL):Prop:=bR env 123 [.own (aF.map aK),aq ai,aq ax,.fn 68 []] (res r).1 (res r).2
def P(a:List Nat)(b:Fr)(J:aL->Prop):Prop:=ee env 123 W B a b (ec env 123 Tryz.f123 4 res J)
def aJ(ai z0:Int)(ar r1 aI:Int)(aF:aL)(J:aL->Prop):Prop:=P [1,1,0,1,1,1,0] [(0,.alias 1000000 []),(1,aq ai),(8,aq z0),(9,.box [.lit (.int .u64 ar)]),(10,.lit (.int .u64 r1)),(11,aq aI),(1000000,.own (aF.map aK))] J
def bm(ai z0:Int)(r2:Int×Int)(r1 ar aI:Int)(aF:aL)(J:aL->Prop):Prop:=P [1,1,0,1,1,1,0,0,1,0,0,1,1] [(0,.alias 1000000 []),(1,aq ai),(8,aq z0),(9,.box [.lit (.int .u64 r2.2)]),(10,.lit (.int .u64 r1)),(11,aq ar),(12,aq aI),(1000000,.own (aF.map aK))] J
def bE(ai z0:Int)(ar r1 aI:Int)(aF:aL)(J:aL->Prop)(h:(if aI<=(aV ((aV (ai+(aV ((aV (bB z0 4))*2))))+1))then ∃r2:Int×Int,Jc.C ar r2/\(if z0<=(aV (dW .u64 r2.1 (IntKind.wrap .u64 (r1-1))))then bm ai z0 r2 r1 aI (aV ((aV (dW .u64 r2.1 (IntKind.wrap .u64 (r1-1))))-z0)) aF J else bm ai z0 r2 r1 aI (aV (dW .u64 r2.1 (IntKind.wrap .u64 (r1-1)))) aF J)else J aF)):aJ ai z0 ar r1 aI aF J:=b2<|bn 9 h bJ bI (λh=>b4 4 h bD λr2 _ h=>bn 9 h bJ bI (λh=>a1 8 h) λh=>a1 3 h) λh=>a7 2 h
def cU(ai z0:Int)(r2:Int×Int)(r1 ar aI:Int)(aF:aL)(J:aL->Prop)(h:∃a3,a_ aF (aV (ai+aI))=some a3/\∃cj,a_ aF ar=some cj/\∃cX,a_ (b7 aF ar a3) (aV (ai+aI))=some cX/\aJ ai z0 r2.2 r1 (aV (ar+1)) (b7 (b7 aF ar a3) (aV (ai+aI)) cj) J):bm ai z0 r2 r1 ar aI aF J:=b2<|cG 11 aK h λa3 aW h=>cY 0 aK aW<|cG 2 aK h λcj c7 h=>cY 0 aK c7<|ic 0 aK c7<|nK 0 aK a3 c7<|cG 0 aK h λcX dL h=>iI 0 aK cj dL<|a1 6 h
def bj(ai ax:Int)(aF:aL)(J:aL->Prop)(h:(if 8<=(aV (ax-ai))then ∃r1:Int,Jb.C (aV (ax-ai)) r1/\aJ ai (aV (ax-ai)) (IntKind.wrap .u64 (aV (ax-ai))) r1 (aV ((aV (ai+(aV ((aV (bB (aV (ax-ai)) 4))*2))))-1)) aF J else J aF)):∃r,J r/\C ai ax aF r:=cw Tryz.f123 B W res<|bn 8 h bJ bI (λh=>b4 10 h bD λr1 _ h=>a1 11 h) λh=>a7 2 h
end Fp
namespace xw
def B:=cv Tryz.f95
def W:=[0,1,2,3,4,10,11,12,13,14,15,16,17,18,19,20,25,32,39,56,75,80,97,125,1000000]
def res(r:aL):D×List D:=(.bt [],[.own (r.map aK)])
def C(ai ax bb:Int)(aF r:aL):Prop:=bR env 95 [.own (aF.map aK),aq ai,aq ax,aq bb,.fn 68 []] (res r).1 (res r).2
def P(a:List Nat)(b:Fr)(J:aL->Prop):Prop:=ee env 95 W B a b (ec env 95 Tryz.f95 5 res J)
def aJ(ai ax bb:Int)(z0 ar:Bool)(aF:aL)(J:aL->Prop):Prop:=P [1,1,0] [(0,.alias 1000000 []),(1,aq ai),(2,aq ax),(3,aq bb),(4,.fn 68 []),(10,dm z0),(11,dm ar),(1000000,.own (aF.map aK))] J
def h5(ai ax bb:Int)(z0 ar:Bool)(aF:aL)(J:aL->Prop):Prop:=P [1,1,0,0,0,1,1,1,1,0] [(0,.alias 1000000 []),(1,aq ai),(2,aq ax),(3,aq bb),(4,.fn 68 []),(10,dm z0),(11,dm ar),(12,aq (aV (ax-ai))),(1000000,.own (aF.map aK))] J
def fX(ai ax bb:Int)(z0 ar:Bool)(aI z3:Int)(zw:aL)(J:aL->Prop):Prop:=P [1,1,0,0,0,1,1,1,1,1,1,0,0] [(0,.alias 1000000 []),(1,aq ai),(2,aq ax),(3,aq bb),(4,.fn 68 []),(10,dm z0),(11,dm ar),(12,aq (aV (ax-ai))),(13,aq aI),(14,aq z3),(1000000,.own (zw.map aK))] J
def cd(ai ax bb:Int)(z0 ar:Bool)(aI:Int)(z3:aL)(J:aL->Prop):Prop:=P [1,1,0,0,0,1,1,1,1,1,1,1,0,0] [(0,.alias 1000000 []),(1,aq ai),(2,aq ax),(3,aq bb),(4,.fn 68 []),(10,dm z0),(11,dm ar),(12,aq (aV (ax-ai))),(13,aq aI),(1000000,.own (z3.map aK))] J
def bm(ai ax:Int)(bb z0:Int)(ar:aL)(J:aL->Prop):Prop:=P [1,1,0,0,0,1,1,1,1,1,1,1,1,0] [(0,.alias 1000000 []),(1,aq ai),(2,aq ax),(3,aq bb),(4,.fn 68 []),(12,aq (aV (ax-ai))),(13,aq z0),(1000000,.own (ar.map aK))] J
def bE(ai ax bb:Int)(z0 ar:Bool)(aF:aL)(J:aL->Prop)(h:(if(aV (ax-ai))<=12 then ∃Pv:aL,Fo.C ai ax aF Pv/\J Pv else(if bb=0 then ∃Pw:aL,E_.C ai ax aF Pw/\J Pw else(if z0=true then h5 ai ax bb z0 ar aF J else ∃Px:aL,Fp.C ai ax aF Px/\h5 ai ax (aV (bb-1)) z0 ar Px J)))):aJ ai ax bb z0 ar aF J:=b2<|bn 9 h bJ bI (λh=>b4 7 h bD (hf:=(λ_=>h3)) λPv _ h=>a7 1 h) λh=>bn 5 h g2 g1 (λh=>b4 7 h bD (hf:=(λ_=>h3)) λPw _ h=>a7 1 h) λh=>bn 4 h id iR (λh=>a1 4 h) λh=>b4 8 h bD (hf:=(λ_=>h3)) λPx _ h=>a1 6 h
def oB(ai ax bb:Int)(z0 ar:Bool)(aF:aL)(J:aL->Prop)(h:∃B9:Int×Int,tE.C aF ai ax B9/\(if B9.2=2 then ∃Py:aL,sm.C ai ax aF Py/\fX ai ax bb z0 ar (aV ((aV (ax-1))-(aV (B9.1-ai)))) 1 Py J else fX ai ax bb z0 ar B9.1 B9.2 aF J)):h5 ai ax bb z0 ar aF J:=b2<|b4 5 h bD (hr:=by exact(pb (qb (s:=1000000) (ps:=[]) (l:=aF) (e:=aK) (e':=aK) (λ_=>rfl) (by kernel_rfl)) (sg (sg (sg qe))))) (hf:=(λ_=>gO (mj (e_ rfl (e_ rfl jc))) rfl)) λB9 _ h=>bn 8 h g2 g1 (λh=>b4 7 h bD (hf:=(λ_=>h3)) λPy _ h=>a1 13 h) λh=>a1 3 h
def kT(ai ax bb:Int)(z0 ar:Bool)(aI z3:Int)(zw:aL)(J:aL->Prop)(h:(if z0=true then(if ar=true then(if z3=1 then ∃Fx:Bool×aL,E7.C ai ax zw Fx/\(if Fx.1=true then J Fx.2 else cd ai ax bb z0 ar aI Fx.2 J)else cd ai ax bb z0 ar aI zw J)else cd ai ax bb z0 ar aI zw J)else cd ai ax bb z0 ar aI zw J)):fX ai ax bb z0 ar aI z3 zw J:=b2<|bn 1 h id iR (λh=>bn 1 h id iR (λh=>bn 3 h g2 g1 (λh=>b4 8 h bD (hf:=(λ_=>h3)) λFx _ h=>oV 1 h id iR (λh=>a7 0 h) λh=>a1 1 h) λh=>a1 4 h) λh=>a1 8 h) λh=>a1 10 h
def fp(ai ax bb:Int)(z0 ar:Bool)(aI:Int)(z3:aL)(J:aL->Prop)(h:(if 0<ai then ∃MB,a_ z3 (aV (ai-1))=some MB/\∃MC,a_ z3 aI=some MC/\∃Pz:Int,jm.C MB MC Pz/\(if Pz<0 then bm ai ax bb aI z3 J else ∃Jf:Int×aL,Ff.C ai ax aI z3 Jf/\aJ Jf.1 ax bb z0 ar Jf.2 J)else bm ai ax bb aI z3 J)):cd ai ax bb z0 ar aI z3 J:=b2<|bn 2 h bJ bI (λh=>cG 5 aK h λMB ahT h=>cY 0 aK ahT<|cG 2 aK h λMC ahU h=>cY 0 aK ahU<|b4 0 h bD λPz _ h=>bn 0 h bJ bI (λh=>a1 5 h) λh=>b4 10 h bD (hf:=(λ_=>h3)) λJf _ h=>a1 7 h) λh=>a1 18 h
def cU(ai ax:Int)(bb z0:Int)(ar:aL)(J:aL->Prop)(h:∃o2:Int×Bool×aL,E9.C ai ax z0 ar o2/\(if(aV (o2.1-ai))<(aV (ax-o2.1))then ∃PA:aL,xw.C ai o2.1 bb o2.2.2 PA/\aJ (aV (o2.1+1)) ax bb (decide ((aV (bB (aV (ax-ai)) 8))<=(aV (o2.1-ai)))) o2.2.1 PA J else ∃PB:aL,xw.C (aV (o2.1+1)) ax bb o2.2.2 PB/\aJ ai o2.1 bb (decide ((aV (bB (aV (ax-ai)) 8))<=(aV (ax-o2.1)))) o2.2.1 PB J)):bm ai ax bb z0 ar J:=b2<|b4 6 h bD (hf:=(λ_=>h3)) λo2 _ h=>bn 28 h bJ bI (λh=>b4 14 h bD (hf:=(λ_=>h3)) λPA _ h=>a1 6 h) λh=>b4 15 h bD (hf:=(λ_=>h3)) λPB _ h=>a1 5 h
def bj(ai ax bb:Int)(aF:aL)(J:aL->Prop)(h:aJ ai ax bb true true aF J):∃r,J r/\C ai ax bb aF r:=cw Tryz.f95 B W res<|a1 6 h
end xw
namespace BI
def B:=cv Tryz.f67
def W:=[0,1,4,1000000]
def res(r:aL):D×List D:=(.bt [],[.own (r.map aK)])
def C(aF r:aL):Prop:=bR env 67 [.own (aF.map aK),.fn 68 []] (res r).1 (res r).2
def bj(aF:aL)(J:aL->Prop)(h:∃r1:Int,tC.C (IntKind.wrap .u64 (aF.length:Int)) r1/\∃r2:aL,xw.C 0 (aF.length:Int) r1 aF r2/\J r2):∃r,J r/\C aF r:=cw Tryz.f67 B W res<|c1 2 aK aF<|b4 7 h bD λr1 _ h=>b4 1 h bD (hf:=(λ_=>h3)) λr2 _ h=>a7 0 h
end BI
namespace Fh
def B:=cv Tryz.f76
def W:=[0,1,4,5,7,8,9,16]
def res(r:Int):D×List D:=(aq r,[])
def C(ab:List ByteArray)(ai:ByteArray)(r:Int):Prop:=bR env 76 [.sl (ab.map dQ),ep ai] (res r).1 (res r).2
def aJ(ab:List ByteArray)(ai:ByteArray)(z0:Int)(J:Int->Prop):Prop:=ee env 76 W B [1,0,1,0] [(0,.sl (ab.map dQ)),(1,ep ai),(7,aq (ab.length:Int)),(8,aq z0)] (ec env 76 Tryz.f76 2 res J)
def bE(ab:List ByteArray)(ai:ByteArray)(z0:Int)(J:Int->Prop)(h:(if z0<(ab.length:Int)then ∃a2,a_ ab z0=some a2/\(if ai.toList=a2.toList then J z0 else aJ ab ai (aV (z0+1)) J)else J (-1))):aJ ab ai z0 J:=b2<|bn 2 h bJ bI (λh=>eA 11 dQ h λa2 aa h=>bn 1 h Mq Mp (λh=>a7 6 h) λh=>a1 7 h) λh=>a7 6 h
def bj(ab:List ByteArray)(ai:ByteArray)(J:Int->Prop)(h:aJ ab ai 0 J):∃r,J r/\C ab ai r:=cw Tryz.f76 B W res<|c1 5 dQ ab<|a1 2 h
end Fh
namespace BP
def B:=cv Tryz.f55
def W:=[0,1,4]
def res(r:Bool):D×List D:=(dm r,[])
def C(ab:List ByteArray)(ai:ByteArray)(r:Bool):Prop:=bR env 55 [.sl (ab.map dQ),ep ai] (res r).1 (res r).2
def bj(ab:List ByteArray)(ai:ByteArray)(J:Bool->Prop)(h:∃r1:Int,Fh.C ab ai r1/\J (decide (0<=r1))):∃r,J r/\C ab ai r:=cw Tryz.f55 B W res<|b4 6 h bD λr1 _ h=>a7 3 h
end BP
namespace zu
def B:=cv Tryz.f54
def W:=[0,2,3,4,5,16,18,19,20,56]
def res(r:Bool):D×List D:=(dm r,[])
def C(ab:ByteArray)(r:Bool):Prop:=bR env 54 [ep ab] (res r).1 (res r).2
def P(a:List Nat)(b:Fr)(J:Bool->Prop):Prop:=ee env 54 W B a b (ec env 54 Tryz.f54 1 res J)
def aJ(ab:ByteArray)(z0:Int)(J:Bool->Prop):Prop:=P [1,1,0,1,0] [(0,ep ab),(18,aq (qi ab)),(19,aq z0)] J
def bm(ab:ByteArray)(z0 ar:Int)(aI:Bool)(J:Bool->Prop):Prop:=P [1,1,0,1,0,0,1,1,0,0,1,1,1,0] [(0,ep ab),(3,aq z0),(4,.lit (.int .u8 ar)),(5,dm aI),(18,aq (qi ab)),(19,aq z0)] J
def cd(ab:ByteArray)(z0:Int)(J:Bool->Prop):Prop:=P [1,1,0,1,0,0,1,1,1] [(0,ep ab),(18,aq (qi ab)),(19,aq z0)] J
def bE(ab:ByteArray)(z0:Int)(J:Bool->Prop)(h:(if z0<(qi ab)then ∃cb,((0:Int)<=z0/\ab[z0.toNat]?=some cb)/\(if 97<=(eN cb)then(if(eN cb)<=122 then bm ab z0 (eN cb) true J else(if 65<=(eN cb)then(if(eN cb)<=90 then bm ab z0 (eN cb) true J else bm ab z0 (eN cb) ((eN cb)==95) J)else bm ab z0 (eN cb) ((eN cb)==95) J))else(if 65<=(eN cb)then(if(eN cb)<=90 then bm ab z0 (eN cb) true J else bm ab z0 (eN cb) ((eN cb)==95) J)else bm ab z0 (eN cb) ((eN cb)==95) J))else J true)):aJ ab z0 J:=b2<|bn 2 h bJ bI (λh=>xp 10 h λcb h=>bn 4 h bJ bI (λh=>bn 2 h bJ bI (λh=>a1 15 h) λh=>bn 3 h bJ bI (λh=>bn 2 h bJ bI (λh=>a1 8 h) λh=>a1 8 h) λh=>a1 11 h) λh=>bn 6 h bJ bI (λh=>bn 2 h bJ bI (λh=>a1 8 h) λh=>a1 8 h) λh=>a1 11 h) λh=>a7 6 h
def cU(ab:ByteArray)(z0 ar:Int)(aI:Bool)(J:Bool->Prop)(h:(if aI=true then cd ab z0 J else(if z0=0 then J false else(if ar<48 then J false else(if 57<ar then J false else cd ab z0 J))))):bm ab z0 ar aI J:=b2<|bn 1 h id iR (λh=>a1 16 h) λh=>bn 3 h g2 g1 (λh=>a7 14 h) λh=>bn 2 h bJ bI (λh=>a7 11 h) λh=>bn 3 h bJ bI (λh=>a7 7 h) λh=>a1 5 h
def fp(ab:ByteArray)(z0:Int)(J:Bool->Prop)(h:aJ ab (aV (z0+1)) J):cd ab z0 J:=b2<|a1 4 h
def bj(ab:ByteArray)(J:Bool->Prop)(h:(if ab.toList=(⟨#[]⟩:ByteArray).toList then J false else(if 24<(qi ab)then J false else(if ab.toList=(⟨#[110,117,108,108]⟩:ByteArray).toList then J false else aJ ab 0 J)))):∃r,J r/\C ab r:=cw Tryz.f54 B W res<|bn 5 h Mq Mp (λh=>a7 14 h) λh=>bn 3 h bJ bI (λh=>a7 10 h) λh=>bn 3 h Mq Mp (λh=>a7 6 h) λh=>a1 9 h
end zu
namespace xC
def B:=cv Tryz.f79
def W:=[0,1,2,4,5,15,20,31]
def res(r:Bool):D×List D:=(dm r,[])
def C(ab:dy)(r:Bool):Prop:=bR env 79 [.agg [aq ab.Kind,aq ab.h6,ep ab.eX]] (res r).1 (res r).2
def bj(ab:dy)(J:Bool->Prop)(h:(if ab.Kind=0 then(if ab.h6=0 then J (ab.eX.toList==(⟨#[]⟩:ByteArray).toList)else J false)else(if ab.Kind=1 then J (ab.eX.toList==(⟨#[]⟩:ByteArray).toList)else(if ab.Kind=2 then(if ab.h6=0 then J (decide ((qi ab.eX)<=200))else J false)else(if ab.Kind=3 then(if 1<=ab.h6 then J (ab.eX.toList==(⟨#[]⟩:ByteArray).toList)else J false)else J false))))):∃r,J r/\C ab r:=cw Tryz.f79 B W res<|oV 12 h g2 g1 (λh=>bn 3 h g2 g1 (λh=>a7 7 h) λh=>a7 7 h) λh=>oV 4 h g2 g1 (λh=>a7 6 h) λh=>oV 4 h g2 g1 (λh=>bn 3 h g2 g1 (λh=>a7 8 h) λh=>a7 8 h) λh=>oV 4 h g2 g1 (λh=>bn 3 h bJ bI (λh=>a7 7 h) λh=>a7 7 h) λh=>a7 4 h
end xC
namespace BT
def B:=cv Tryz.f78
def W:=[0,1,2]
def res(r:Bool):D×List D:=(dm r,[])
def C(ab:dy)(r:Bool):Prop:=bR env 78 [.agg [aq ab.Kind,aq ab.h6,ep ab.eX]] (res r).1 (res r).2
def bj(ab:dy)(J:Bool->Prop)(h:∃r1:Bool,xC.C ab r1/\J (not r1)):∃r,J r/\C ab r:=cw Tryz.f78 B W res<|b4 6 h bD λr1 _ h=>a7 3 h
end BT
namespace Fk
def B:=cv Tryz.f102
def W:=[0,1,4,5,7,8,9,16]
def res(r:Int):D×List D:=(aq r,[])
def C(ab:List dy)(r:Int):Prop:=bR env 102 [.sl (ab.map ja),.fn 78 []] (res r).1 (res r).2
def aJ(ab:List dy)(z0:Int)(J:Int->Prop):Prop:=ee env 102 W B [1,0,1,0] [(0,.sl (ab.map ja)),(1,.fn 78 []),(7,aq (ab.length:Int)),(8,aq z0)] (ec env 102 Tryz.f102 2 res J)
def bE(ab:List dy)(z0:Int)(J:Int->Prop)(h:(if z0<(ab.length:Int)then ∃a2,a_ ab z0=some a2/\∃bx:Bool,BT.C a2 bx/\(if bx=true then J z0 else aJ ab (aV (z0+1)) J)else J (-1))):aJ ab z0 J:=b2<|bn 2 h bJ bI (λh=>eA 11 ja h λa2 aa h=>iy 1 h bD (λ_ h=>a7 6 h) λ_ h=>a1 7 h) λh=>a7 6 h
def bj(ab:List dy)(J:Int->Prop)(h:aJ ab 0 J):∃r,J r/\C ab r:=cw Tryz.f102 B W res<|c1 5 ja ab<|a1 2 h
end Fk
namespace BL
def B:=cv Tryz.f77
def W:=[0,1,4]
def res(r:Bool):D×List D:=(dm r,[])
def C(ab:List dy)(r:Bool):Prop:=bR env 77 [.sl (ab.map ja),.fn 78 []] (res r).1 (res r).2
def bj(ab:List dy)(J:Bool->Prop)(h:∃r1:Int,Fk.C ab r1/\J (decide (0<=r1))):∃r,J r/\C ab r:=cw Tryz.f77 B W res<|b4 6 h bD λr1 _ h=>a7 3 h
end BL
namespace BW
def B:=cv Tryz.f56
def W:=[0,2]
def res(r:Bool):D×List D:=(dm r,[])
def C(ab:List dy)(r:Bool):Prop:=bR env 56 [.sl (ab.map ja)] (res r).1 (res r).2
def bj(ab:List dy)(J:Bool->Prop)(h:∃r1:Bool,BL.C ab r1/\J (not r1)):∃r,J r/\C ab r:=cw Tryz.f56 B W res<|b4 5 h bD λr1 _ h=>a7 3 h
end BW
namespace xD
def B:=cv Tryz.f29
def W:=[0,1,2,3,4,5,7,11,21,23,24,25,26,40,43,44,45,46,49,54,62]
def res(r:Int):D×List D:=(aq r,[])
def C(ab:cH)(r:Int):Prop:=bR env 29 [.agg [ep ab.Name,.sl (ab.bl.map dQ),.sl (ab.Rows.map gk)]] (res r).1 (res r).2
def P(a:List Nat)(b:Fr)(J:Int->Prop):Prop:=ee env 29 W B a b (ec env 29 Tryz.f29 1 res J)
def aJ(ab:cH)(z0:Int)(J:Int->Prop):Prop:=P [1,1,1,0,1,0] [(0,.agg [ep ab.Name,.sl (ab.bl.map dQ),.sl (ab.Rows.map gk)]),(1,.box [ep ab.Name,.sl (ab.bl.map dQ),.sl (ab.Rows.map gk)]),(23,.sl (ab.bl.map dQ)),(24,aq (ab.bl.length:Int)),(25,aq z0)] J
def bm(ab:cH)(z0 ar:Int)(J:Int->Prop):Prop:=P [1,1,1,1,1,0,1,0] [(0,.agg [ep ab.Name,.sl (ab.bl.map dQ),.sl (ab.Rows.map gk)]),(1,.box [ep ab.Name,.sl (ab.bl.map dQ),.sl (ab.Rows.map gk)]),(5,aq z0),(43,.sl (ab.Rows.map gk)),(44,aq (ab.Rows.length:Int)),(45,aq ar)] J
def bE(ab:cH)(z0:Int)(J:Int->Prop)(h:(if z0<(ab.bl.length:Int)then ∃bA,a_ ab.bl z0=some bA/\∃dv:Bool,zu.C bA dv/\(if dv=true then 0<=z0/\(0<=z0.toNat/\z0.toNat<=ab.bl.length)/\∃sq:Bool,BP.C (ba (z0.toNat-0) ab.bl) bA sq/\(if sq=true then J 1 else aJ ab (aV (z0+1)) J)else J 1)else bm ab 0 0 J)):aJ ab z0 J:=b2<|bn 2 h bJ bI (λh=>eA 5 dQ h λbA aB h=>iy 6 h bD (λ_ h=>h.elim λbO h=>h.elim λc7 h=>fe 5 (Y3 (t:=42) (x:=(.tmp 35)) (lo:=none) (hi:=(some (.tmp 36))) (lo':=none) (hi':=some z0.toNat) (e:=dQ) (l:=ab.bl) (et:=9) (k:=1) (by kernel_rfl) (by kernel_rfl) xR (tW (i:=z0) (q:=.i64) (by kernel_rfl) bO) (by kernel_rfl) (by kernel_rfl) (λ_=>rfl) (by kernel_rfl) c7.1 c7.2)<|iy 1 h bD (λ_ h=>a7 6 h) λ_ h=>a1 8 h) λ_ h=>a7 14 h) λh=>c1 9 gk ab.Rows<|a1 2 h
def cU(ab:cH)(z0 ar:Int)(J:Int->Prop)(h:(if ar<(ab.Rows.length:Int)then ∃hh,a_ ab.Rows ar=some hh/\(if hh.my<=z0 then J 1 else(if(hh.di.length:Int)=(ab.bl.length:Int)then ∃jQ:Bool,BW.C hh.di jQ/\(if jQ=true then bm ab hh.my (aV (ar+1)) J else J 1)else J 6))else J 0)):bm ab z0 ar J:=b2<|bn 2 h bJ bI (λh=>eA 4 gk h λhh jw h=>oV 11 h bJ bI (λh=>a7 3 h) λh=>c1 3 ja hh.di<|c1 2 dQ ab.bl<|UC 3 h g4 g3 (λh=>a7 3 h) λh=>b4 3 h bD λjQ _ h=>UC 3 h (λh=>iR (agi h)) (λh=>id (agh h)) (λh=>a7 3 h) λh=>a1 10 h) λh=>a7 6 h
def bj(ab:cH)(J:Int->Prop)(h:∃r1:Bool,zu.C ab.Name r1/\(if r1=true then(if 16<(ab.bl.length:Int)then J 3 else(if 1000<(ab.Rows.length:Int)then J 3 else aJ ab 0 J))else J 1)):∃r,J r/\C ab r:=cw Tryz.f29 B W res<|iy 7 h bD (λ_ h=>c1 7 dQ ab.bl<|bn 0 h bJ bI (λh=>a7 11 h) λh=>c1 3 gk ab.Rows<|bn 0 h bJ bI (λh=>a7 6 h) λh=>c1 7 dQ ab.bl<|a1 2 h) λ_ h=>a7 6 h
end xD
namespace sh
def B:=cv Tryz.f45
def W:=[0,2,3,5]
def res(r:ay):D×List D:=(.own (r.map bc),[])
def C(ab:Int)(r:ay):Prop:=bR env 45 [cC ab] (res r).1 (res r).2
def aJ(ab:Int)(z0:ay)(J:ay->Prop):Prop:=ee env 45 W B [1,1,0,0] [(0,cC ab),(3,.own (z0.map bc))] (ec env 45 Tryz.f45 1 res J)
def bE(ab:Int)(z0:ay)(J:ay->Prop)(h:(if ab=0 then J z0 else(0<=ab/\ab<4294967296)/\(z0.length+1)*8<=140737488355328/\aJ (dW .u32 ab (IntKind.wrap .u32 (ab-1))) (z0++[(zB ab)]) J)):aJ ab z0 J:=b2<|g5 3 h g4 g3 (λh=>h.elim λI h=>wG 6 (show bR env 66 [cC ab] (aq (zB ab)) []from abm (by kernel_rfl) I)<|nq 1 bc z0 ([(zB ab)]) h λh=>a1 9 h) λh=>a7 7 h
def bj(ab:Int)(J:ay->Prop)(h:aJ ab ([]) J):∃r,J r/\C ab r:=cw Tryz.f45 B W res<|a1 6 h
end sh
namespace BZ
def B:=cv Tryz.f42
def W:=[0,2,3,4,11]
def res(r:Int):D×List D:=(cC r,[])
def C(ab r:Int):Prop:=bR env 42 [aq ab] (res r).1 (res r).2
def aJ(ab z0 ar:Int)(J:Int->Prop):Prop:=ee env 42 W B [1,1,0,1,0] [(0,aq ab),(3,cC z0),(4,aq ar)] (ec env 42 Tryz.f42 1 res J)
def bE(ab z0 ar:Int)(J:Int->Prop)(h:(if ar<ab then(if ar<32 then 0<=ar/\aJ ab (eZ .u32 z0 (jo .u32 1 ar)) (aV (ar+1)) J else J z0)else J z0)):aJ ab z0 ar J:=b2<|bn 4 h bJ bI (λh=>bn 2 h bJ bI (λh=>h.elim λI h=>ma 7 (Ad (t:=35) (q:=.u32) (q':=.i64) (i1:=1) I)<|a1 8 h) λh=>a7 8 h) λh=>a7 11 h
def bj(ab:Int)(J:Int->Prop)(h:aJ ab 0 0 J):∃r,J r/\C ab r:=cw Tryz.f42 B W res<|a1 9 h
end BZ
namespace Fs
def B:=cv Tryz.f80
def W:=[0,1,4,5,6,11]
def res(r:ay):D×List D:=(.own (r.map (lk .u8)),[])
def C(ai:Int)(aF r:ay):Prop:=bR env 80 [.own (aF.map (lk .u8)),aq ai] (res r).1 (res r).2
def aJ(aF:ay)(z0 ar:Int)(J:ay->Prop):Prop:=ee env 80 W B [1,1,0,1,0] [(0,.own (aF.map (lk .u8))),(5,.lit (.int .u64 z0)),(6,aq ar)] (ec env 80 Tryz.f80 2 res J)
def bE(aF:ay)(z0 ar:Int)(J:ay->Prop)(h:(if 0<=ar then 0<=ar/\(aF.length+1)*1<=140737488355328/\aJ (aF++[(IntKind.wrap .u8 (ft .u64 z0 ar))]) z0 (aV (ar-8)) J else J aF)):aJ aF z0 ar J:=b2<|bn 3 h bJ bI (λh=>h.elim λI h=>ma 7 (p_ (t:=130) (q:=.u64) (q':=.i64) (i1:=z0) I)<|nq 2 (lk .u8) aF ([(IntKind.wrap .u8 (ft .u64 z0 ar))]) h λh=>a1 7 h) λh=>a7 7 h
def bj(ai:Int)(aF:ay)(J:ay->Prop)(h:aJ aF (jF .u64 (IntKind.wrap .u64 ai) 9223372036854775808) 56 J):∃r,J r/\C ai aF r:=cw Tryz.f80 B W res<|a1 12 h
end Fs
namespace zp
def B:=cv Tryz.f57
def W:=[0,1,2,3,4,5,8,14,15,22,26,27,28,41]
def res(r:ByteArray×Int):D×List D:=(.bt [ep r.1,aq r.2],[])
def C(ab:dy)(r:ByteArray×Int):Prop:=bR env 57 [.agg [aq ab.Kind,aq ab.h6,ep ab.eX]] (res r).1 (res r).2
def P(a:List Nat)(b:Fr)(J:ByteArray×Int->Prop):Prop:=ee env 57 W B a b (ec env 57 Tryz.f57 1 res J)
def bm(ab:dy)(z0:Bool)(J:ByteArray×Int->Prop):Prop:=P [1,1,1,0,1,0,1,0] [(0,.agg [aq ab.Kind,aq ab.h6,ep ab.eX]),(1,.box [aq ab.Kind,aq ab.h6,ep ab.eX]),(4,.own (([(IntKind.wrap .u8 ab.Kind)]).map (lk .u8))),(14,aq ab.Kind),(15,dm z0)] J
def cd(ab:dy)(J:ByteArray×Int->Prop):Prop:=P [1,1,1,0,1,0,1,1,0] [(0,.agg [aq ab.Kind,aq ab.h6,ep ab.eX]),(1,.box [aq ab.Kind,aq ab.h6,ep ab.eX]),(4,.own (([(IntKind.wrap .u8 ab.Kind)]).map (lk .u8))),(14,aq ab.Kind)] J
def aJ(ab:dy)(z0:ay)(ar:Int)(J:ByteArray×Int->Prop):Prop:=P [1,1,1,0,1,0,1,1,1,0,0,1,0] [(0,.agg [aq ab.Kind,aq ab.h6,ep ab.eX]),(1,.box [aq ab.Kind,aq ab.h6,ep ab.eX]),(4,.own (z0.map (lk .u8))),(26,aq (qi ab.eX)),(27,aq ar)] J
def fX(ab:dy)(z0:ay)(ar:Int)(J:ByteArray×Int->Prop):Prop:=P [1,1,1,0,1,0,1,1,1,0,0,1,0,0,1,1,1] [(0,.agg [aq ab.Kind,aq ab.h6,ep ab.eX]),(1,.box [aq ab.Kind,aq ab.h6,ep ab.eX]),(4,.own (z0.map (lk .u8))),(26,aq (qi ab.eX)),(27,aq ar)] J
def cU(ab:dy)(z0:Bool)(J:ByteArray×Int->Prop)(h:∃r2:ay,Fs.C ab.h6 ([(IntKind.wrap .u8 ab.Kind)]) r2/\(∀x∈r2,0<=x/\x<256)/\J ((wC r2),0)):bm ab z0 J:=b2<|b4 4 h bD (hf:=(λ_=>gO (g0 (e:=(lk .u8)) (λ_=>rfl)) rfl)) λr2 _ h=>h.elim λaB h=>fe 4 (KT (s:=148) (t:=9) (et:=5) (x:=(.tmp 49)) (d:=.alias 4 []) (l:=r2) (by kernel_rfl) (by kernel_rfl) (tY (by kernel_rfl)) (by kernel_rfl) (by kernel_rfl) (by kernel_rfl) aB)<|a7 3 h
def fp(ab:dy)(J:ByteArray×Int->Prop)(h:(if ab.Kind=2 then aJ ab ([(IntKind.wrap .u8 ab.Kind)]) 0 J else(∀x∈([(IntKind.wrap .u8 ab.Kind)]),0<=x/\x<256)/\J ((wC [(IntKind.wrap .u8 ab.Kind)]),0))):cd ab J:=b2<|oV 4 h g2 g1 (λh=>a1 6 h) λh=>h.elim λaW h=>fe 3 (KT (s:=148) (t:=9) (et:=5) (x:=(.tmp 49)) (d:=.alias 4 []) (l:=[(IntKind.wrap .u8 ab.Kind)]) (by kernel_rfl) (by kernel_rfl) (tY (by kernel_rfl)) (by kernel_rfl) (by kernel_rfl) (by kernel_rfl) aW)<|a7 3 h
def bE(ab:dy)(z0:ay)(ar:Int)(J:ByteArray×Int->Prop)(h:(if ar<(qi ab.eX)then ∃dr,((0:Int)<=ar/\ab.eX[ar.toNat]?=some dr)/\(z0.length+1)*1<=140737488355328/\∃MM,((0:Int)<=ar/\ab.eX[ar.toNat]?=some MM)/\(if(eN MM)=0 then((z0++[(eN dr)]).length+1)*1<=140737488355328/\fX ab ((z0++[(eN dr)])++[255]) ar J else fX ab (z0++[(eN dr)]) ar J)else(z0.length+2)*1<=140737488355328/\(∀x∈(z0++[0,1]),0<=x/\x<256)/\J ((wC (z0++[0,1])),0))):aJ ab z0 ar J:=b2<|bn 2 h bJ bI (λh=>xp 12 h λdr h=>nq 1 (lk .u8) z0 ([(eN dr)]) h λh=>xp 6 h λMM h=>bn 0 h g2 g1 (λh=>nq 5 (lk .u8) (z0++[(eN dr)]) ([255]) h λh=>a1 2 h) λh=>a1 3 h) λh=>nq 6 (lk .u8) z0 ([0,1]) h λh=>h.elim λD1 h=>fe 4 (KT (s:=148) (t:=9) (et:=5) (x:=(.tmp 49)) (d:=.alias 4 []) (l:=(z0++[0,1])) (by kernel_rfl) (by kernel_rfl) (tY (by kernel_rfl)) (by kernel_rfl) (by kernel_rfl) (by kernel_rfl) D1)<|a7 3 h
def kT(ab:dy)(z0:ay)(ar:Int)(J:ByteArray×Int->Prop)(h:aJ ab z0 (aV (ar+1)) J):fX ab z0 ar J:=b2<|a1 4 h
def bj(ab:dy)(J:ByteArray×Int->Prop)(h:∃r1:Bool,xC.C ab r1/\(if r1=true then(if ab.Kind=1 then(if ab.Kind=1 then bm ab (ab.Kind==1) J else cd ab J)else(if ab.Kind=3 then bm ab (ab.Kind==3) J else cd ab J))else J ((⟨#[]⟩:ByteArray),1))):∃r,J r/\C ab r:=cw Tryz.f57 B W res<|iy 7 h bD (λ_ h=>oV 19 h g2 g1 (λh=>oV 1 h g2 g1 (λh=>a1 0 h) λh=>a1 0 h) λh=>oV 4 h g2 g1 (λh=>a1 0 h) λh=>a1 0 h) λ_ h=>a7 7 h
end zp
namespace vv
def B:=cv Tryz.f91
def W:=[0,2,3,5,6,7,8,9,14]
def res(r:Int):D×List D:=(aq r,[])
def C(ab:ay)(r:Int):Prop:=bR env 91 [.sl (ab.map bc)] (res r).1 (res r).2
def aJ(ab:ay)(z0:Int)(J:Int->Prop):Prop:=ee env 91 W B [1,1,0,1,0] [(0,.sl (ab.map bc)),(3,aq 0),(6,.sl (ab.map bc)),(7,aq (ab.length:Int)),(8,aq z0)] (ec env 91 Tryz.f91 1 res J)
def bE(ab:ay)(z0:Int)(J:Int->Prop)(h:(if z0<(ab.length:Int)then ∃a2,a_ ab z0=some a2/\(if a2=0 then aJ ab (aV (z0+1)) J else J a2)else J 0)):aJ ab z0 J:=b2<|bn 2 h bJ bI (λh=>eA 4 bc h λa2 aa h=>g5 6 h g4 g3 (λh=>a7 6 h) λh=>a1 7 h) λh=>a7 7 h
def bj(ab:ay)(J:Int->Prop)(h:aJ ab 0 J):∃r,J r/\C ab r:=cw Tryz.f91 B W res<|c1 8 bc ab<|a1 2 h
end vv
namespace vy
def B:=cv Tryz.f50
def W:=[0,1,4,5,10,12,13,14,24]
def res(r:Bool):D×List D:=(dm r,[])
def C(ab ai:ay)(r:Bool):Prop:=bR env 50 [.sl (ab.map bc),.sl (ai.map bc)] (res r).1 (res r).2
def aJ(ab ai:ay)(z0:Int)(J:Bool->Prop):Prop:=ee env 50 W B [1,1,0,1,0] [(0,.sl (ab.map bc)),(1,.sl (ai.map bc)),(12,aq (ab.length:Int)),(13,aq z0)] (ec env 50 Tryz.f50 2 res J)
def bE(ab ai:ay)(z0:Int)(J:Bool->Prop)(h:(if z0<(ab.length:Int)then ∃a2,a_ ab z0=some a2/\∃a3,a_ ai z0=some a3/\(if a2=a3 then aJ ab ai (aV (z0+1)) J else J false)else J true)):aJ ab ai z0 J:=b2<|bn 2 h bJ bI (λh=>eA 10 bc h λa2 aa h=>eA 3 bc h λa3 aW h=>g5 1 h g4 g3 (λh=>a7 5 h) λh=>a1 7 h) λh=>a7 6 h
def bj(ab ai:ay)(J:Bool->Prop)(h:(if(ab.length:Int)=(ai.length:Int)then aJ ab ai 0 J else J false)):∃r,J r/\C ab ai r:=cw Tryz.f50 B W res<|c1 5 bc ab<|c1 1 bc ai<|g5 0 h g4 g3 (λh=>a7 5 h) λh=>c1 5 bc ab<|a1 2 h
end vy
namespace Fa
def B:=cv Tryz.f69
def W:=[0,1,4,5,6,7,10,15,28,35,49]
def res(r:(aL×Bool)):D×List D:=((tJ (r.1.map aK) r.2),[])
def C(aF:aL)(r:(aL×Bool)):Prop:=bR env 69 [.own (aF.map aK),.fn 50 []] (res r).1 (res r).2
def P(a:List Nat)(b:Fr)(J:(aL×Bool)->Prop):Prop:=ee env 69 W B a b (ec env 69 Tryz.f69 2 res J)
def aJ(aF:aL)(z0:Int)(J:(aL×Bool)->Prop):Prop:=P [1,1,0,1,0] [(0,.own (aF.map aK)),(1,.fn 50 []),(5,aq z0)] J
def bm(aF:aL)(z0:Int)(ke jU:Nat)(ar:Int)(J:(aL×Bool)->Prop):Prop:=P [1,1,0,1,0,0,1,0,0,1,0,1,0,1,0] [(0,.own (aF.map aK)),(1,.fn 50 []),(5,aq z0),(6,.sub 0 [] ke jU),(7,aq ar)] J
def cd(aF:aL)(z0:Int)(ke jU:Nat)(ar:Int)(J:(aL×Bool)->Prop):Prop:=P [1,1,0,1,0,0,1,0,0,1,0,1,0,1,0,0,1,1] [(0,.own (aF.map aK)),(1,.fn 50 []),(5,aq z0),(6,.sub 0 [] ke jU),(7,aq ar)] J
def bE(aF:aL)(z0:Int)(J:(aL×Bool)->Prop)(h:(if z0<(aF.length:Int)then ∃a2,a_ aF z0=some a2/\∃a3,a_ aF (aV (z0-1))=some a3/\∃dw:Bool,vy.C a2 a3 dw/\(if dw=true then 0<=z0/\(z0.toNat<=aF.length/\aF.length<=aF.length)/\bm aF z0 z0.toNat (aF.length-z0.toNat) 1 J else aJ aF (aV (z0+1)) J)else J (⟨aF,true⟩))):aJ aF z0 J:=b2<|c1 4 aK aF<|bn 0 h bJ bI (λh=>cG 7 aK h λa2 aa h=>cY 0 aK aa<|cG 3 aK h λa3 aW h=>cY 0 aK aW<|iy 0 h bD (λ_ h=>h.elim λc7 h=>h.elim λgp h=>fe 5 (Cs (s:=0) (ps:=[]) (t:=68) (x:=(.tmp 29)) (lo:=(some (.tmp 30))) (hi:=none) (lo':=some z0.toNat) (hi':=none) (e:=aK) (l:=aF) (et:=74) (k:=1) (by kernel_rfl) (by kernel_rfl) (tY (by kernel_rfl)) (tW (i:=z0) (q:=.i64) (by kernel_rfl) c7) xR (by kernel_rfl) (by kernel_rfl) (λ_=>rfl) (by kernel_rfl) gp.1 gp.2)<|a1 5 h) λ_ h=>a1 8 h) λh=>a7 7 h
def cU(aF:aL)(z0:Int)(ke jU:Nat)(ar:Int)(J:(aL×Bool)->Prop)(h:ke+jU<=aF.length/\(if ar<((ba jU (fW ke aF)).length:Int)then ∃eY,a_ aF ((ke:Int)+ar)=some eY/\(0<=ar/\ar<((jU:Nat):Int))/\ke+jU<=aF.length/\∃j3,a_ aF ((ke:Int)+(aV (ar-1)))=some j3/\(0<=(aV (ar-1))/\(aV (ar-1))<((jU:Nat):Int))/\ke+jU<=aF.length/\∃Fy:Bool,vy.C eY j3 Fy/\(if Fy=true then cd aF z0 ke jU ar J else(0<=ar/\ar<((jU:Nat):Int))/\ke+jU<=aF.length/\∃a20,a_ aF z0=some a20/\cd (b7 aF z0 eY) (aV (z0+1)) ke jU ar J)else 0<=z0/\(z0.toNat<=aF.length/\aF.length<=aF.length)/\z0.toNat+(aF.length-z0.toNat)<=aF.length/\0<=z0/\z0.toNat+(aF.length-z0.toNat)<=aF.length/\z0.toNat<=aF.length/\(z0.toNat+(aF.length-z0.toNat)<=aF.length/\z0.toNat<=aF.length/\z0.toNat<=z0.toNat)/\J (⟨(ba z0.toNat aF),(!((ba z0.toNat aF).isEmpty))⟩))):bm aF z0 ke jU ar J:=b2<|h.elim λdL h=>fe 4 (GW (x:=(.tmp 33)) (t:=68) (et:=74) (d:=.sub 0 [] ke jU) (e:=aK) (l:=(ba jU (fW ke aF))) (by kernel_rfl) (by kernel_rfl) (Qo (s:=0) (ps:=[]) (l:=aF) (e:=aK) (by kernel_rfl) dL) (by kernel_rfl))<|bn 0 h bJ bI (λh=>h.elim λeY h=>h.elim λlY h=>
 h.elim λpy h=>h.elim λjw h=>fe 7 (zG (s:=0) (ps:=[]) (off:=ke) (len:=jU) (t:=68) (x:=(.tmp 39)) (ix:=(.tmp 40)) (et:=74) (k:=1) (e:=aK) (l:=aF) (i:=ar) (q:=.i64) (a:=eY) (by kernel_rfl) (by kernel_rfl) (by kernel_rfl) (by kernel_rfl) (by kernel_rfl) (by kernel_rfl) jw py lY (by kernel_rfl))<|cY 0 aK lY<|h.elim λj3 h=>h.elim λAS h=>h.elim λD1 h=>h.elim λjv h=>fe 3 (zG (s:=0) (ps:=[]) (off:=ke) (len:=jU) (t:=68) (x:=(.tmp 43)) (ix:=(.tmp 45)) (et:=74) (k:=1) (e:=aK) (l:=aF) (i:=(aV (ar-1))) (q:=.i64) (a:=j3) (by kernel_rfl) (by kernel_rfl) (by kernel_rfl) (by kernel_rfl) (by kernel_rfl) (by kernel_rfl) jv D1 AS (by kernel_rfl))<|cY 0 aK AS<|iy 0 h bD (λ_ h=>a1 4 h) λ_ h=>h.elim λs7 h=>h.elim λyJ h=>fe 8 (zG (s:=0) (ps:=[]) (off:=ke) (len:=jU) (t:=68) (x:=(.tmp 52)) (ix:=(.tmp 53)) (et:=74) (k:=1) (e:=aK) (l:=aF) (i:=ar) (q:=.i64) (a:=eY) (by kernel_rfl) (by kernel_rfl) (by kernel_rfl) (by kernel_rfl) (by kernel_rfl) (by kernel_rfl) yJ s7 lY (by kernel_rfl))<|cY 0 aK lY<|cG 0 aK h λa20 D2 h=>iI 0 aK eY D2<|a1 6 h) λh=>h.elim λrM h=>h.elim λAU h=>fe 6 (Cs (s:=0) (ps:=[]) (t:=68) (x:=(.tmp 59)) (lo:=(some (.tmp 60))) (hi:=none) (lo':=some z0.toNat) (hi':=none) (e:=aK) (l:=aF) (et:=74) (k:=1) (by kernel_rfl) (by kernel_rfl) (tY (by kernel_rfl)) (tW (i:=z0) (q:=.i64) (by kernel_rfl) rM) xR (by kernel_rfl) (by kernel_rfl) (λ_=>rfl) (by kernel_rfl) AU.1 AU.2) <|
 h.elim λw6 h=>vn 0 (Lg (t:=68) (x:=(.tmp 61)) (s:=0) (ps:=[]) (off:=z0.toNat) (len:=(aF.length-z0.toNat)) (l:=aF) (e:=aK) (et:=74) (z:=.own []) (k:=1) (by kernel_rfl) (by kernel_rfl) (by kernel_rfl) (by kernel_rfl) (by kernel_rfl) (by kernel_rfl) (by kernel_rfl) (by kernel_rfl) (λ_=>rfl) w6 (by kernel_rfl))<|h.elim λD3 h=>h.elim λs8 h=>h.elim λahV h=>fe 4 (JP (t:=68) (x:=(.tmp 62)) (hi:=(some (.tmp 63))) (hi':=z0.toNat) (e:=aK) (l:=aF) (off:=z0.toNat) (len:=(aF.length-z0.toNat)) (z:=.own []) (et:=74) (k:=1) (s:=0) (ps:=[]) (by kernel_rfl) (by kernel_rfl) (by kernel_rfl) (tW (i:=z0) (q:=.i64) (by kernel_rfl) D3) (by kernel_rfl) (by kernel_rfl) (λ_=>rfl) (by kernel_rfl) (by kernel_rfl) s8 ahV)<|h.elim λAV h=>a7 2 h (hl:=(KH (t:=4) (s:=0) (n:=z0.toNat) (m:=(ba z0.toNat aF)) (e:=aK) (es:=nX aK aF z0.toNat (aF.length-z0.toNat) (.own [])) (by kernel_rfl) (by kernel_rfl) (by kernel_rfl) (by rw[GJ (by first|exact AV.1|omega)];exact AV.2.1) (K5 AV.1 AV.2.2) (by kernel_rfl)))
def fp(aF:aL)(z0:Int)(ke jU:Nat)(ar:Int)(J:(aL×Bool)->Prop)(h:bm aF z0 ke jU (aV (ar+1)) J):cd aF z0 ke jU ar J:=b2<|a1 5 h
def bj(aF:aL)(J:(aL×Bool)->Prop)(h:(if(aF.length:Int)<2 then J (⟨aF,true⟩)else aJ aF 1 J)):∃r,J r/\C aF r:=cw Tryz.f69 B W res<|c1 5 aK aF<|bn 0 h bJ bI (λh=>a7 6 h) λh=>a1 6 h
end Fa
namespace BR
def B:=cv Tryz.f119
def W:=[0,2]
def res(r:Int):D×List D:=(aq r,[])
def C(ab r:Int):Prop:=bR env 119 [cC ab] (res r).1 (res r).2
def bj(ab:Int)(J:Int->Prop)(h:∃cb,((0:Int)<=(ft .u32 ab 24)/\(⟨#[0,1,1,2,1,2,2,3,1,2,2,3,2,3,3,4,1,2,2,3,2,3,3,4,2,3,3,4,3,4,4,5,1,2,2,3,2,3,3,4,2,3,3,4,3,4,4,5,2,3,3,4,3,4,4,5,3,4,4,5,4,5,5,6,1,2,2,3,2,3,3,4,2,3,3,4,3,4,4,5,2,3,3,4,3,4,4,5,3,4,4,5,4,5,5,6,2,3,3,4,3,4,4,5,3,4,4,5,4,5,5,6,3,4,4,5,4,5,5,6,4,5,5,6,5,6,6,7,1,2,2,3,2,3,3,4,2,3,3,4,3,4,4,5,2,3,3,4,3,4,4,5,3,4,4,5,4,5,5,6,2,3,3,4,3,4,4,5,3,4,4,5,4,5,5,6,3,4,4,5,4,5,5,6,4,5,5,6,5,6,6,7,2,3,3,4,3,4,4,5,3,4,4,5,4,5,5,6,3,4,4,5,4,5,5,6,4,5,5,6,5,6,6,7,3,4,4,5,4,5,5,6,4,5,5,6,5,6,6,7,4,5,5,6,5,6,6,7,5,6,6,7,6,7,7,8]⟩:ByteArray)[(ft .u32 ab 24).toNat]?=some cb)/\∃dh,((0:Int)<=(dW .u32 (ft .u32 ab 16) 255)/\(⟨#[0,1,1,2,1,2,2,3,1,2,2,3,2,3,3,4,1,2,2,3,2,3,3,4,2,3,3,4,3,4,4,5,1,2,2,3,2,3,3,4,2,3,3,4,3,4,4,5,2,3,3,4,3,4,4,5,3,4,4,5,4,5,5,6,1,2,2,3,2,3,3,4,2,3,3,4,3,4,4,5,2,3,3,4,3,4,4,5,3,4,4,5,4,5,5,6,2,3,3,4,3,4,4,5,3,4,4,5,4,5,5,6,3,4,4,5,4,5,5,6,4,5,5,6,5,6,6,7,1,2,2,3,2,3,3,4,2,3,3,4,3,4,4,5,2,3,3,4,3,4,4,5,3,4,4,5,4,5,5,6,2,3,3,4,3,4,4,5,3,4,4,5,4,5,5,6,3,4,4,5,4,5,5,6,4,5,5,6,5,6,6,7,2,3,3,4,3,4,4,5,3,4,4,5,4,5,5,6,3,4,4,5,4,5,5,6,4,5,5,6,5,6,6,7,3,4,4,5,4,5,5,6,4,5,5,6,5,6,6,7,4,5,5,6,5,6,6,7,5,6,6,7,6,7,7,8]⟩:ByteArray)[(dW .u32 (ft .u32 ab 16) 255).toNat]?=some dh)/\∃uJ,((0:Int)<=(dW .u32 (ft .u32 ab 8) 255)/\(⟨#[0,1,1,2,1,2,2,3,1,2,2,3,2,3,3,4,1,2,2,3,2,3,3,4,2,3,3,4,3,4,4,5,1,2,2,3,2,3,3,4,2,3,3,4,3,4,4,5,2,3,3,4,3,4,4,5,3,4,4,5,4,5,5,6,1,2,2,3,2,3,3,4,2,3,3,4,3,4,4,5,2,3,3,4,3,4,4,5,3,4,4,5,4,5,5,6,2,3,3,4,3,4,4,5,3,4,4,5,4,5,5,6,3,4,4,5,4,5,5,6,4,5,5,6,5,6,6,7,1,2,2,3,2,3,3,4,2,3,3,4,3,4,4,5,2,3,3,4,3,4,4,5,3,4,4,5,4,5,5,6,2,3,3,4,3,4,4,5,3,4,4,5,4,5,5,6,3,4,4,5,4,5,5,6,4,5,5,6,5,6,6,7,2,3,3,4,3,4,4,5,3,4,4,5,4,5,5,6,3,4,4,5,4,5,5,6,4,5,5,6,5,6,6,7,3,4,4,5,4,5,5,6,4,5,5,6,5,6,6,7,4,5,5,6,5,6,6,7,5,6,6,7,6,7,7,8]⟩:ByteArray)[(dW .u32 (ft .u32 ab 8) 255).toNat]?=some uJ) /\
 ∃ML,((0:Int)<=(dW .u32 ab 255)/\(⟨#[0,1,1,2,1,2,2,3,1,2,2,3,2,3,3,4,1,2,2,3,2,3,3,4,2,3,3,4,3,4,4,5,1,2,2,3,2,3,3,4,2,3,3,4,3,4,4,5,2,3,3,4,3,4,4,5,3,4,4,5,4,5,5,6,1,2,2,3,2,3,3,4,2,3,3,4,3,4,4,5,2,3,3,4,3,4,4,5,3,4,4,5,4,5,5,6,2,3,3,4,3,4,4,5,3,4,4,5,4,5,5,6,3,4,4,5,4,5,5,6,4,5,5,6,5,6,6,7,1,2,2,3,2,3,3,4,2,3,3,4,3,4,4,5,2,3,3,4,3,4,4,5,3,4,4,5,4,5,5,6,2,3,3,4,3,4,4,5,3,4,4,5,4,5,5,6,3,4,4,5,4,5,5,6,4,5,5,6,5,6,6,7,2,3,3,4,3,4,4,5,3,4,4,5,4,5,5,6,3,4,4,5,4,5,5,6,4,5,5,6,5,6,6,7,3,4,4,5,4,5,5,6,4,5,5,6,5,6,6,7,4,5,5,6,5,6,6,7,5,6,6,7,6,7,7,8]⟩:ByteArray)[(dW .u32 ab 255).toNat]?=some ML)/\J (aV (IntKind.wrap .u8 ((IntKind.wrap .u8 ((IntKind.wrap .u8 ((eN cb)+(eN dh)))+(eN uJ)))+(eN ML))))):∃r,J r/\C ab r:=cw Tryz.f119 B W res<|xp 6 h λcb h=>xp 3 h λdh h=>xp 4 h λuJ h=>xp 3 h λML h=>a7 4 h
end BR
namespace xB
def B:=cv Tryz.f93
def W:=[0,2]
def res(r:Int):D×List D:=(aq r,[])
def C(ab r:Int):Prop:=bR env 93 [cC ab] (res r).1 (res r).2
def bj(ab:Int)(J:Int->Prop)(h:∃r1:Int,BR.C ab r1/\J r1):∃r,J r/\C ab r:=cw Tryz.f93 B W res<|b4 5 h bD λr1 _ h=>a7 2 h
end xB
namespace Fj
def B:=cv Tryz.f120
def W:=[0,2]
def res(r:Bool):D×List D:=(dm r,[])
def C(ab:Int)(r:Bool):Prop:=bR env 120 [cC ab] (res r).1 (res r).2
def bj(ab:Int)(J:Bool->Prop)(h:J (ab != ab)):∃r,J r/\C ab r:=cw Tryz.f120 B W res<|a7 9 h
end Fj
namespace BU
def B:=cv Tryz.f94
def W:=[0,1,4,5,6,11,12,13,16,19]
def res(r:Int):D×List D:=(aq r,[])
def C(ab ai r:Int):Prop:=bR env 94 [cC ab,cC ai] (res r).1 (res r).2
def bj(ab ai:Int)(J:Int->Prop)(h:∃r1:Bool,Fj.C ab r1/\∃r2:Bool,Fj.C ai r2/\(if r1=true then(if r2=true then J 0 else J (-1))else(if r2=true then J 1 else(if ab<ai then J (-1)else(if ai<ab then J 1 else J 0))))):∃r,J r/\C ab ai r:=cw Tryz.f94 B W res<|b4 5 h bD λr1 _ h=>b4 4 h bD λr2 _ h=>bn 3 h id iR (λh=>bn 3 h id iR (λh=>a7 5 h) λh=>a7 6 h) λh=>bn 4 h id iR (λh=>a7 5 h) λh=>bn 6 h bJ bI (λh=>a7 5 h) λh=>bn 6 h bJ bI (λh=>a7 5 h) λh=>a7 6 h
end BU
namespace vB
def B:=cv Tryz.f64
def W:=[0,1,4]
def res(r:Int):D×List D:=(aq r,[])
def C(ab ai r:Int):Prop:=bR env 64 [cC ab,cC ai] (res r).1 (res r).2
def bj(ab ai:Int)(J:Int->Prop)(h:∃r1:Int,xB.C ab r1/\∃r2:Int,xB.C ai r2/\∃bx:Int,vA.C r1 r2 bx/\∃dv:Int,BU.C ab ai dv/\∃dw:Int,vv.C ([bx,dv]) dw/\J dw):∃r,J r/\C ab ai r:=cw Tryz.f64 B W res<|b4 5 h bD λr1 _ h=>b4 1 h bD λr2 _ h=>b4 0 h bD λbx _ h=>b4 2 h bD λdv _ h=>b4 1 h bD (hr:=by exact(pb (qb (s:=13) (ps:=[]) (l:=[bx,dv]) (e:=bc) (e':=bc) (λ_=>rfl) (by kernel_rfl)) qe)) λdw _ h=>a7 2 h
end vB
namespace Fb
def B:=cv Tryz.f108
def W:=[0,1,2,3,8,9,14,34,1000000]
def res(r:ay):D×List D:=(.bt [],[.own (r.map bM)])
def C(ai ax:Int)(aF r:ay):Prop:=bR env 108 [.own (aF.map bM),aq ai,aq ax,.fn 64 []] (res r).1 (res r).2
def P(a:List Nat)(b:Fr)(J:ay->Prop):Prop:=ee env 108 W B a b (ec env 108 Tryz.f108 4 res J)
def aJ(ai ax z0:Int)(aF:ay)(J:ay->Prop):Prop:=P [1,0] [(0,.alias 1000000 []),(1,aq ai),(2,aq ax),(3,.fn 64 []),(8,aq z0),(1000000,.own (aF.map bM))] J
def bm(ai ax:Int)(z0 ar:Int)(aF:ay)(J:ay->Prop):Prop:=P [1,0,0,1,0,0,1,0] [(0,.alias 1000000 []),(1,aq ai),(2,aq ax),(3,.fn 64 []),(8,aq z0),(9,aq ar),(1000000,.own (aF.map bM))] J
def cd(ai ax z0:Int)(aF:ay)(J:ay->Prop):Prop:=P [1,0,0,1,1] [(0,.alias 1000000 []),(1,aq ai),(2,aq ax),(3,.fn 64 []),(8,aq z0),(1000000,.own (aF.map bM))] J
def bE(ai ax z0:Int)(aF:ay)(J:ay->Prop)(h:(if z0<ax then bm ai ax z0 z0 aF J else J aF)):aJ ai ax z0 aF J:=b2<|bn 4 h bJ bI (λh=>a1 7 h) λh=>a7 2 h
def cU(ai ax:Int)(z0 ar:Int)(aF:ay)(J:ay->Prop)(h:(if ai<ar then ∃a2,a_ aF ar=some a2/\∃a3,a_ aF (aV (ar-1))=some a3/\∃dw:Int,vB.C a2 a3 dw/\(if dw<0 then ∃eQ,a_ (b7 aF ar a3) (aV (ar-1))=some eQ/\bm ai ax z0 (aV (ar-1)) (b7 (b7 aF ar a3) (aV (ar-1)) a2) J else cd ai ax z0 aF J)else cd ai ax z0 aF J)):bm ai ax z0 ar aF J:=b2<|bn 4 h bJ bI (λh=>cG 4 bM h λa2 aa h=>cY 0 bM aa<|cG 3 bM h λa3 aW h=>cY 0 bM aW<|b4 0 h bD λdw _ h=>bn 0 h bJ bI (λh=>ic 13 bM aW<|cY 0 bM aW<|ic 2 bM aa<|cY 0 bM aa<|ic 0 bM aa<|age 0 bM a3 aa<|cG 0 bM h λeQ gp h=>iI 0 bM a2 gp<|a1 6 h) λh=>a1 4 h) λh=>a1 17 h
def fp(ai ax z0:Int)(aF:ay)(J:ay->Prop)(h:aJ ai ax (aV (z0+1)) aF J):cd ai ax z0 aF J:=b2<|a1 5 h
def bj(ai ax:Int)(aF:ay)(J:ay->Prop)(h:aJ ai ax (aV (ai+1)) aF J):∃r,J r/\C ai ax aF r:=cw Tryz.f108 B W res<|a1 5 h
end Fb
namespace I9
def B:=cv Tryz.f89
def W:=[0,1,2,3,4,10,11,12,13,14,15,16,17,18,19,20,25,32,39,56,75,80,97,125,1000000]
def res(r:ay):D×List D:=(.bt [],[.own (r.map bM)])
def C(ai ax bb:Int)(aF r:ay):Prop:=bR env 89 [.own (aF.map bM),aq ai,aq ax,aq bb,.fn 64 []] (res r).1 (res r).2
def aJ(ai ax bb:Int)(aF:ay)(J:ay->Prop):Prop:=ee env 89 W B [1,1,0] [(0,.alias 1000000 []),(1,aq ai),(2,aq ax),(3,aq bb),(4,.fn 64 []),(10,dm true),(11,dm true),(1000000,.own (aF.map bM))] (ec env 89 Tryz.f89 5 res J)
def bE(ai ax bb:Int)(aF:ay)(J:ay->Prop)(h:(if(aV (ax-ai))<=12 then ∃r1:ay,Fb.C ai ax aF r1/\J r1 else(if bb=0 then False else False))):aJ ai ax bb aF J:=b2<|bn 9 h bJ bI (λh=>b4 7 h bD (hf:=(λ_=>Kv (mj jc) (g0 (e:=bM) (λ_=>rfl)))) λr1 _ h=>a7 1 h) λh=>bn 5 h g2 g1 (λh=>h.elim) λh=>h.elim
def bj(ai ax bb:Int)(aF:ay)(J:ay->Prop)(h:aJ ai ax bb aF J):∃r,J r/\C ai ax bb aF r:=cw Tryz.f89 B W res<|a1 6 h
end I9
namespace BM
def B:=cv Tryz.f63
def W:=[0,1,4,1000000]
def res(r:ay):D×List D:=(.bt [],[.own (r.map bM)])
def C(aF r:ay):Prop:=bR env 63 [.own (aF.map bM),.fn 64 []] (res r).1 (res r).2
def bj(aF:ay)(J:ay->Prop)(h:∃r1:Int,tC.C (IntKind.wrap .u64 (aF.length:Int)) r1/\∃r2:ay,I9.C 0 (aF.length:Int) r1 aF r2/\J r2):∃r,J r/\C aF r:=cw Tryz.f63 B W res<|c1 2 bM aF<|b4 7 h bD λr1 _ h=>b4 1 h bD (hf:=(λ_=>Kv (mj jc) (g0 (e:=bM) (λ_=>rfl)))) λr2 _ h=>a7 0 h
end BM
namespace Fg
def B:=cv Tryz.f65
def W:=[0,2,3,4,5,8,13,25,32,44]
def res(r:(ay×Bool)):D×List D:=((tJ (r.1.map bM) r.2),[])
def C(aF:ay)(r:(ay×Bool)):Prop:=bR env 65 [.own (aF.map bM)] (res r).1 (res r).2
def P(a:List Nat)(b:Fr)(J:(ay×Bool)->Prop):Prop:=ee env 65 W B a b (ec env 65 Tryz.f65 1 res J)
def aJ(aF:ay)(z0:Int)(J:(ay×Bool)->Prop):Prop:=P [1,1,0,1,0] [(0,.own (aF.map bM)),(3,aq z0)] J
def bm(aF:ay)(z0:Int)(kc jT:Nat)(ar:Int)(J:(ay×Bool)->Prop):Prop:=P [1,1,0,1,0,0,1,0,0,1,0,1,0,1,0] [(0,.own (aF.map bM)),(3,aq z0),(4,.sub 0 [] kc jT),(5,aq ar)] J
def cd(z0:ay)(ar:Int)(kc jT:Nat)(aI:Int)(J:(ay×Bool)->Prop):Prop:=P [1,1,0,1,0,0,1,0,0,1,0,1,0,1,0,0,1,1] [(0,.own (z0.map bM)),(3,aq ar),(4,.sub 0 [] kc jT),(5,aq aI)] J
def bE(aF:ay)(z0:Int)(J:(ay×Bool)->Prop)(h:(if z0<(aF.length:Int)then ∃a2,a_ aF z0=some a2/\∃a3,a_ aF (aV (z0-1))=some a3/\(if a2=a3 then 0<=z0/\(z0.toNat<=aF.length/\aF.length<=aF.length)/\bm aF z0 z0.toNat (aF.length-z0.toNat) 1 J else aJ aF (aV (z0+1)) J)else J (⟨aF,true⟩))):aJ aF z0 J:=b2<|c1 4 bM aF<|bn 0 h bJ bI (λh=>cG 6 bM h λa2 aa h=>cY 0 bM aa<|cG 3 bM h λa3 aW h=>cY 0 bM aW<|bn 0 h g2 g1 (λh=>h.elim λbO h=>h.elim λc7 h=>fe 5 (Cs (s:=0) (ps:=[]) (t:=59) (x:=(.tmp 26)) (lo:=(some (.tmp 27))) (hi:=none) (lo':=some z0.toNat) (hi':=none) (e:=bM) (l:=aF) (et:=35) (k:=1) (by kernel_rfl) (by kernel_rfl) (tY (by kernel_rfl)) (tW (i:=z0) (q:=.i64) (by kernel_rfl) bO) xR (by kernel_rfl) (by kernel_rfl) (λ_=>rfl) (by kernel_rfl) c7.1 c7.2)<|a1 5 h) λh=>a1 8 h) λh=>a7 7 h
def cU(aF:ay)(z0:Int)(kc jT:Nat)(ar:Int)(J:(ay×Bool)->Prop)(h:kc+jT<=aF.length/\(if ar<((ba jT (fW kc aF)).length:Int)then ∃j2,a_ aF ((kc:Int)+ar)=some j2/\(0<=ar/\ar<((jT:Nat):Int))/\kc+jT<=aF.length/\∃jh,a_ aF ((kc:Int)+(aV (ar-1)))=some jh/\(0<=(aV (ar-1))/\(aV (ar-1))<((jT:Nat):Int))/\kc+jT<=aF.length/\(if j2=jh then cd aF z0 kc jT ar J else(0<=ar/\ar<((jT:Nat):Int))/\kc+jT<=aF.length/\∃m4,a_ aF z0=some m4/\cd (b7 aF z0 j2) (aV (z0+1)) kc jT ar J)else 0<=z0/\(z0.toNat<=aF.length/\aF.length<=aF.length)/\z0.toNat+(aF.length-z0.toNat)<=aF.length/\0<=z0/\z0.toNat+(aF.length-z0.toNat)<=aF.length/\z0.toNat<=aF.length/\(z0.toNat+(aF.length-z0.toNat)<=aF.length/\z0.toNat<=aF.length/\z0.toNat<=z0.toNat)/\J (⟨(ba z0.toNat aF),(!((ba z0.toNat aF).isEmpty))⟩))):bm aF z0 kc jT ar J:=b2<|h.elim λgp h=>fe 4 (GW (x:=(.tmp 30)) (t:=59) (et:=35) (d:=.sub 0 [] kc jT) (e:=bM) (l:=(ba jT (fW kc aF))) (by kernel_rfl) (by kernel_rfl) (Qo (s:=0) (ps:=[]) (l:=aF) (e:=bM) (by kernel_rfl) gp) (by kernel_rfl))<|bn 0 h bJ bI (λh=>h.elim λj2 h=>h.elim λoJ h=>h.elim λjw h=>h.elim λdL h=>fe 6 (zG (s:=0) (ps:=[]) (off:=kc) (len:=jT) (t:=59) (x:=(.tmp 35)) (ix:=(.tmp 36)) (et:=35) (k:=1) (e:=bM) (l:=aF) (i:=ar) (q:=.i64) (a:=j2) (by kernel_rfl) (by kernel_rfl) (by kernel_rfl) (by kernel_rfl) (by kernel_rfl) (by kernel_rfl) dL jw oJ (by kernel_rfl)) <|
 cY 0 bM oJ<|h.elim λjh h=>h.elim λpz h=>h.elim λjv h=>h.elim λlY h=>fe 3 (zG (s:=0) (ps:=[]) (off:=kc) (len:=jT) (t:=59) (x:=(.tmp 39)) (ix:=(.tmp 41)) (et:=35) (k:=1) (e:=bM) (l:=aF) (i:=(aV (ar-1))) (q:=.i64) (a:=jh) (by kernel_rfl) (by kernel_rfl) (by kernel_rfl) (by kernel_rfl) (by kernel_rfl) (by kernel_rfl) lY jv pz (by kernel_rfl))<|cY 0 bM pz<|g5 0 h g4 g3 (λh=>h.elim λuX h=>h.elim λAS h=>fe 7 (zG (s:=0) (ps:=[]) (off:=kc) (len:=jT) (t:=59) (x:=(.tmp 47)) (ix:=(.tmp 48)) (et:=35) (k:=1) (e:=bM) (l:=aF) (i:=ar) (q:=.i64) (a:=j2) (by kernel_rfl) (by kernel_rfl) (by kernel_rfl) (by kernel_rfl) (by kernel_rfl) (by kernel_rfl) AS uX oJ (by kernel_rfl))<|cY 0 bM oJ<|cG 0 bM h λm4 s7 h=>iI 0 bM j2 s7<|a1 6 h) λh=>a1 3 h) λh=>h.elim λn3 h=>h.elim λD2 h=>fe 6 (Cs (s:=0) (ps:=[]) (t:=59) (x:=(.tmp 54)) (lo:=(some (.tmp 55))) (hi:=none) (lo':=some z0.toNat) (hi':=none) (e:=bM) (l:=aF) (et:=35) (k:=1) (by kernel_rfl) (by kernel_rfl) (tY (by kernel_rfl)) (tW (i:=z0) (q:=.i64) (by kernel_rfl) n3) xR (by kernel_rfl) (by kernel_rfl) (λ_=>rfl) (by kernel_rfl) D2.1 D2.2)<|h.elim λrM h=>vn 0 (Lg (t:=59) (x:=(.tmp 56)) (s:=0) (ps:=[]) (off:=z0.toNat) (len:=(aF.length-z0.toNat)) (l:=aF) (e:=bM) (et:=35) (z:=cC 0) (k:=1) (by kernel_rfl) (by kernel_rfl) (by kernel_rfl) (by kernel_rfl) (by kernel_rfl) (by kernel_rfl) (by kernel_rfl) (by kernel_rfl) (λ_=>rfl) rM (by kernel_rfl)) <|
 h.elim λAU h=>h.elim λw6 h=>h.elim λD3 h=>fe 4 (JP (t:=59) (x:=(.tmp 57)) (hi:=(some (.tmp 58))) (hi':=z0.toNat) (e:=bM) (l:=aF) (off:=z0.toNat) (len:=(aF.length-z0.toNat)) (z:=cC 0) (et:=35) (k:=1) (s:=0) (ps:=[]) (by kernel_rfl) (by kernel_rfl) (by kernel_rfl) (tW (i:=z0) (q:=.i64) (by kernel_rfl) AU) (by kernel_rfl) (by kernel_rfl) (λ_=>rfl) (by kernel_rfl) (by kernel_rfl) w6 D3)<|h.elim λs8 h=>a7 2 h (hl:=(KH (t:=2) (s:=0) (n:=z0.toNat) (m:=(ba z0.toNat aF)) (e:=bM) (es:=nX bM aF z0.toNat (aF.length-z0.toNat) (cC 0)) (by kernel_rfl) (by kernel_rfl) (by kernel_rfl) (by rw[GJ (by first|exact s8.1|omega)];exact s8.2.1) (K5 s8.1 s8.2.2) (by kernel_rfl)))
def fp(z0:ay)(ar:Int)(kc jT:Nat)(aI:Int)(J:(ay×Bool)->Prop)(h:bm z0 ar kc jT (aV (aI+1)) J):cd z0 ar kc jT aI J:=b2<|a1 5 h
def bj(aF:ay)(J:(ay×Bool)->Prop)(h:(if(aF.length:Int)<2 then J (⟨aF,true⟩)else aJ aF 1 J)):∃r,J r/\C aF r:=cw Tryz.f65 B W res<|c1 5 bM aF<|bn 0 h bJ bI (λh=>a7 6 h) λh=>a1 6 h
end Fg
namespace Fq
def B:=cv Tryz.f43
def W:=[0,2,3]
def res(r:ay):D×List D:=(.sl (r.map bM),[])
def C(ab r:ay):Prop:=bR env 43 [.sl (ab.map bM)] (res r).1 (res r).2
def bj(ab:ay)(J:ay->Prop)(h:ab.length*4<=140737488355328/\∃r2:ay,BM.C ab r2/\∃bx:(ay×Bool),Fg.C r2 bx/\J bx.1):∃r,J r/\C ab r:=cw Tryz.f43 B W res<|h.elim λI h=>wG 5 (show bR env 53 [.sl (ab.map bM)] (.own (ab.map bM)) []from zT (k:=1) (b:=4) (e:=bM) (l:=ab) (by kernel_rfl) (λ_=>rfl) I) (hf:=(gO (g0 (e:=bM) (λ_=>rfl)) rfl))<|b4 4 h bD (hf:=(λ_=>Kv (mj jc) (g0 (e:=bM) (λ_=>rfl)))) λr2 _ h=>Hh 3 h bD (λ(bx:(ay×Bool))=>App (l:=bx.1) (e:=bM) rfl (λ_=>rfl)) (hf:=(λ_=>aaM (aaZ (e:=bM) (λ_=>rfl)) rfl)) λbx _ h=>a7 2 h
end Fq
namespace vC
def B:=cv Tryz.f32
def W:=[0,1,4,6,12,15,16,17,18,19,29]
def res(r:Int):D×List D:=(aq r,[])
def C(ab:Int)(ai:List bC)(r:Int):Prop:=bR env 32 [aq ab,.sl (ai.map c6)] (res r).1 (res r).2
def aJ(ab:Int)(ai:List bC)(z0:Int)(J:Int->Prop):Prop:=ee env 32 W B [1,1,1,0,1,0] [(0,aq ab),(1,.sl (ai.map c6)),(16,.sl (ai.map c6)),(17,aq (ai.length:Int)),(18,aq z0)] (ec env 32 Tryz.f32 2 res J)
def bE(ab:Int)(ai:List bC)(z0:Int)(J:Int->Prop)(h:(if z0<(ai.length:Int)then ∃a2,a_ ai z0=some a2/\0<=ab/\(if(ft .u32 (eZ .u32 a2.bX a2.bZ) ab)=0 then aJ ab ai (aV (z0+1)) J else J 1)else J 0)):aJ ab ai z0 J:=b2<|bn 2 h bJ bI (λh=>eA 4 c6 h λa2 aa h=>h.elim λaB h=>ma 11 (p_ (t:=35) (q:=.u32) (q':=.i64) (i1:=(eZ .u32 a2.bX a2.bZ)) aB)<|g5 0 h g4 g3 (λh=>a7 5 h) λh=>a1 7 h) λh=>a7 6 h
def bj(ab:Int)(ai:List bC)(J:Int->Prop)(h:(if ab<0 then J 7 else(if 16<ab then J 7 else(if 64<(ai.length:Int)then J 3 else aJ ab ai 0 J)))):∃r,J r/\C ab ai r:=cw Tryz.f32 B W res<|bn 5 h bJ bI (λh=>a7 9 h) λh=>bn 2 h bJ bI (λh=>a7 6 h) λh=>c1 6 c6 ai<|bn 0 h bJ bI (λh=>a7 5 h) λh=>c1 5 c6 ai<|a1 2 h
end vC
namespace mN
def B:=cv Tryz.f22
def W:=[0,1,2,6,7,9,14,18,19,20,21,22,32]
def res(r:Int):D×List D:=(aq r,[])
def C(ab:Int)(ai:List bC)(ax:List br)(r:Int):Prop:=bR env 22 [aq ab,.sl (ai.map c6),.sl (ax.map cZ)] (res r).1 (res r).2
def aJ(ab:Int)(ax:List br)(z0:Int)(J:Int->Prop):Prop:=ee env 22 W B [1,1,1,0,1,0] [(0,aq ab),(2,.sl (ax.map cZ)),(19,.sl (ax.map cZ)),(20,aq (ax.length:Int)),(21,aq z0)] (ec env 22 Tryz.f22 3 res J)
def bE(ab:Int)(ax:List br)(z0:Int)(J:Int->Prop)(h:(if z0<(ax.length:Int)then ∃bA,a_ ax z0=some bA/\0<=ab/\(if(ft .u32 (eZ .u32 bA.bX bA.bZ) ab)=0 then aJ ab ax (aV (z0+1)) J else J 1)else J 0)):aJ ab ax z0 J:=b2<|bn 2 h bJ bI (λh=>eA 4 cZ h λbA aB h=>h.elim λaW h=>ma 11 (p_ (t:=35) (q:=.u32) (q':=.i64) (i1:=(eZ .u32 bA.bX bA.bZ)) aW)<|g5 0 h g4 g3 (λh=>a7 5 h) λh=>a1 7 h) λh=>a7 6 h
def bj(ab:Int)(ai:List bC)(ax:List br)(J:Int->Prop)(h:∃r1:Int,vC.C ab ai r1/\(if r1=0 then(if 64<(ax.length:Int)then J 3 else aJ ab ax 0 J)else J r1)):∃r,J r/\C ab ai ax r:=cw Tryz.f22 B W res<|b4 6 h bD λr1 _ h=>g5 4 h g4 g3 (λh=>a7 6 h) λh=>c1 5 cZ ax<|bn 0 h bJ bI (λh=>a7 5 h) λh=>c1 5 cZ ax<|a1 2 h
end mN
namespace sn
def res(r:ay):D×List D:=(.sl (r.map bM),[])
def C(ab:Int)(ai:List br)(ax:Int)(r:ay):Prop:=bR env 20 [aq ab,.sl (ai.map cZ),cC ax] (res r).1 (res r).2
end sn
namespace qZ
def B:=cv Tryz.f21
def W:=[0,1,4,5,7,9,12,13,14,15,20,21,22,23]
def res(r:List br):D×List D:=(.own (r.map cZ),[])
def C(ab:List bC)(ai r:List br):Prop:=bR env 21 [.sl (ab.map c6),.sl (ai.map cZ)] (res r).1 (res r).2
def P(a:List Nat)(b:Fr)(J:List br->Prop):Prop:=ee env 21 W B a b (ec env 21 Tryz.f21 2 res J)
def aJ(ab:List bC)(ai:List br)(z0:Int)(J:List br->Prop):Prop:=P [1,1,0,1,0] [(0,.sl (ab.map c6)),(5,.own (ai.map cZ)),(12,.sl (ab.map c6)),(13,aq (ab.length:Int)),(14,aq z0)] J
def bm(ab:List bC)(ai:List br)(bA:bC)(z0:Int)(dv:ay)(ar:Int)(J:List br->Prop):Prop:=P [1,1,0,1,0,0,1,1,0,0,1,1,0] [(0,.sl (ab.map c6)),(5,.own (ai.map cZ)),(7,.box [cC bA.bX,cC bA.bZ]),(12,.sl (ab.map c6)),(13,aq (ab.length:Int)),(14,aq z0),(20,.own (dv.map bc)),(21,aq (dv.length:Int)),(22,aq ar)] J
def bE(ab:List bC)(ai:List br)(z0:Int)(J:List br->Prop)(h:(if z0<(ab.length:Int)then ∃bA,a_ ab z0=some bA/\∃dv:ay,sh.C bA.bZ dv/\bm ab ai bA z0 dv 0 J else J ai)):aJ ab ai z0 J:=b2<|bn 2 h bJ bI (λh=>eA 4 c6 h λbA aB h=>b4 7 h bD (hf:=(λ_=>gO (g0 (e:=bc) (λ_=>rfl)) rfl)) λdv _ h=>c1 0 bc dv<|a1 2 h) λh=>a7 7 h
def cU(ab:List bC)(ai:List br)(bA:bC)(z0:Int)(dv:ay)(ar:Int)(J:List br->Prop)(h:(if ar<(dv.length:Int)then ∃cj,a_ dv ar=some cj/\0<=cj/\(ai.length+1)*8<=140737488355328/\bm ab (ai++[(⟨bA.bX,(jo .u32 1 cj)⟩:br)]) bA z0 dv (aV (ar+1)) J else aJ ab ai (aV (z0+1)) J)):bm ab ai bA z0 dv ar J:=b2<|bn 2 h bJ bI (λh=>cG 4 bc h λcj c7 h=>cY 0 bc c7<|h.elim λgp h=>ma 7 (Ad (t:=35) (q:=.u32) (q':=.i64) (i1:=1) gp)<|nq 2 cZ ai ([(⟨bA.bX,(jo .u32 1 cj)⟩:br)]) h λh=>a1 6 h) λh=>a1 7 h
def bj(ab:List bC)(ai:List br)(J:List br->Prop)(h:ai.length*8<=140737488355328/\aJ ab ai 0 J):∃r,J r/\C ab ai r:=cw Tryz.f21 B W res<|h.elim λI h=>wG 5 (show bR env 44 [.sl (ai.map cZ)] (.own (ai.map cZ)) []from zT (k:=2) (b:=8) (e:=cZ) (l:=ai) (by kernel_rfl) (λ_=>rfl) I) (hf:=(gO (g0 (e:=cZ) (λ_=>rfl)) rfl))<|c1 4 c6 ab<|a1 2 h
end qZ
namespace si
def B:=cv Tryz.f18
def W:=[0,1,4,5,6,7,13]
def res(r:List bC):D×List D:=(.own (r.map c6),[])
def C(ab:Int)(ai:List jj)(r:List bC):Prop:=bR env 18 [aq ab,.sl (ai.map jV)] (res r).1 (res r).2
def aJ(ai:List jj)(r1:Int)(z0:List bC)(ar:Int)(J:List bC->Prop):Prop:=ee env 18 W B [1,1,1,0,1,0] [(1,.sl (ai.map jV)),(5,cC r1),(6,.own (z0.map c6)),(7,aq ar)] (ec env 18 Tryz.f18 2 res J)
def bE(ai:List jj)(r1:Int)(z0:List bC)(ar:Int)(J:List bC->Prop)(h:(if ar<(ai.length:Int)then ∃bA,a_ ai ar=some bA/\(z0.length+1)*8<=140737488355328/\aJ ai r1 (z0++[(⟨(dW .u32 (IntKind.wrap .u32 bA.L) r1),(dW .u32 (IntKind.wrap .u32 bA.R) r1)⟩:bC)]) (aV (ar+1)) J else J z0)):aJ ai r1 z0 ar J:=b2<|c1 4 jV ai<|bn 0 h bJ bI (λh=>eA 7 jV h λbA aB h=>xo 7 jV aB<|nq 7 c6 z0 ([(⟨(dW .u32 (IntKind.wrap .u32 bA.L) r1),(dW .u32 (IntKind.wrap .u32 bA.R) r1)⟩:bC)]) h λh=>a1 7 h) λh=>a7 7 h
def bj(ab:Int)(ai:List jj)(J:List bC->Prop)(h:∃r1:Int,BZ.C ab r1/\aJ ai r1 ([]) 0 J):∃r,J r/\C ab ai r:=cw Tryz.f18 B W res<|b4 5 h bD λr1 _ h=>a1 8 h
end si
namespace B2
def B:=cv Tryz.f13
def W:=[0,1,2,3,4,5]
def res(r:Int×List bC×Bool):D×List D:=(.bt [aq r.1,.sl (r.2.1.map c6),dm r.2.2],[])
def C(ab:AM)(r:Int×List bC×Bool):Prop:=bR env 13 [.agg [.lit (.int .u8 ab.N),.sl (ab.L.map jV)]] (res r).1 (res r).2
def bj(ab:AM)(J:Int×List bC×Bool->Prop)(h:∃r1:List bC,si.C (aV (Int.tmod ab.N 7)) ab.L r1/\J ((aV (Int.tmod ab.N 7)),r1,(decide ((ab.L.length:Int)<=6)))):∃r,J r/\C ab r:=cw Tryz.f13 B W res<|I0 18 h bD (λ(r1:List bC)=>GK (l:=r1) (e:=c6) (e':=c6) rfl (λ_=>rfl)) (hf:=(λ_=>z8 (g0 (e:=c6) (λ_=>rfl)))) λr1 _ h=>c1 2 jV ab.L<|a7 5 h
end B2
namespace vD
def B:=cv Tryz.f19
def W:=[0,1,2,3,8,9,15,20]
def res(r:Int):D×List D:=(aq r,[])
def C(ab:Int)(ai:List bC)(ax:List br)(bb r:Int):Prop:=bR env 19 [aq ab,.sl (ai.map c6),.sl (ax.map cZ),cC bb] (res r).1 (res r).2
def bj(ab:Int)(ai:List bC)(ax:List br)(bb:Int)(J:Int->Prop)(h:∃r1:Int,mN.C ab ai ax r1/\(if r1=0 then 0<=ab/\(if(ft .u32 bb ab)=0 then J 0 else J 1)else J r1)):∃r,J r/\C ab ai ax bb r:=cw Tryz.f19 B W res<|b4 7 h bD λr1 _ h=>g5 4 h g4 g3 (λh=>a7 6 h) λh=>h.elim λaa h=>ma 6 (p_ (t:=35) (q:=.u32) (q':=.i64) (i1:=bb) aa)<|g5 0 h g4 g3 (λh=>a7 5 h) λh=>a7 6 h
end vD
namespace sj
def B:=cv Tryz.f6
def W:=[0,1,4,5,6,7,14]
def res(r:List br):D×List D:=(.own (r.map cZ),[])
def C(ab:Int)(ai:List jj)(r:List br):Prop:=bR env 6 [aq ab,.sl (ai.map jV)] (res r).1 (res r).2
def aJ(z0:List br)(r1:List bC)(ar:Int)(J:List br->Prop):Prop:=ee env 6 W B [1,1,1,0,1,0] [(5,.own (z0.map cZ)),(6,.own (r1.map c6)),(7,aq ar)] (ec env 6 Tryz.f6 2 res J)
def bE(z0:List br)(r1:List bC)(ar:Int)(J:List br->Prop)(h:(if ar<(r1.length:Int)then ∃bA,a_ r1 ar=some bA/\(z0.length+1)*8<=140737488355328/\aJ (z0++[(⟨bA.bX,bA.bZ⟩:br)]) r1 (aV (ar+1)) J else J z0)):aJ z0 r1 ar J:=b2<|c1 4 c6 r1<|bn 0 h bJ bI (λh=>cG 7 c6 h λbA aB h=>cY 1 c6 aB<|ic 2 c6 aB<|cY 1 c6 aB<|nq 2 cZ z0 ([(⟨bA.bX,bA.bZ⟩:br)]) h λh=>a1 7 h) λh=>a7 7 h
def bj(ab:Int)(ai:List jj)(J:List br->Prop)(h:∃r1:List bC,si.C ab ai r1/\aJ ([]) r1 0 J):∃r,J r/\C ab ai r:=cw Tryz.f6 B W res<|b4 9 h bD (hf:=(λ_=>gO (g0 (e:=c6) (λ_=>rfl)) rfl)) λr1 _ h=>a1 5 h
end sj
namespace oZ
def B:=cv Tryz.f7
def W:=[0,1,2,3,7,8,9,10,12,23,31,32,33,34,48]
def res(r:Bool×Int):D×List D:=(.bt [dm r.1,aq r.2],[])
def C(ab:Int)(ai:List bC)(ax:List br)(bb:br)(r:Bool×Int):Prop:=bR env 7 [aq ab,.sl (ai.map c6),.sl (ax.map cZ),.agg [cC bb.bX,cC bb.bZ]] (res r).1 (res r).2
def P(a:List Nat)(b:Fr)(J:Bool×Int->Prop):Prop:=ee env 7 W B a b (ec env 7 Tryz.f7 4 res J)
def aJ(bb:br)(bx:ay)(z0:Int)(J:Bool×Int->Prop):Prop:=P [1,1,0,1,0] [(3,.agg [cC bb.bX,cC bb.bZ]),(7,.box [cC bb.bX,cC bb.bZ]),(31,.sl (bx.map bM)),(32,aq (bx.length:Int)),(33,aq z0)] J
def bm(bb:br)(bx:ay)(z0:Int)(J:Bool×Int->Prop):Prop:=P [1,1,0,1,0,0,1,1,1] [(3,.agg [cC bb.bX,cC bb.bZ]),(7,.box [cC bb.bX,cC bb.bZ]),(31,.sl (bx.map bM)),(32,aq (bx.length:Int)),(33,aq z0)] J
def bE(bb:br)(bx:ay)(z0:Int)(J:Bool×Int->Prop)(h:(if z0<(bx.length:Int)then ∃a4,a_ bx z0=some a4/\(if(dW .u32 a4 bb.bZ)=0 then bm bb bx z0 J else(if(fK .u32 a4 bb.bZ)=0 then bm bb bx z0 J else J (false,0)))else J (true,0))):aJ bb bx z0 J:=b2<|bn 2 h bJ bI (λh=>eA 4 bM h λa4 bO h=>g5 8 h g4 g3 (λh=>g5 5 h g4 g3 (λh=>a7 7 h) λh=>a1 4 h) λh=>a1 10 h) λh=>a7 7 h
def cU(bb:br)(bx:ay)(z0:Int)(J:Bool×Int->Prop)(h:aJ bb bx (aV (z0+1)) J):bm bb bx z0 J:=b2<|a1 4 h
def bj(ab:Int)(ai:List bC)(ax:List br)(bb:br)(J:Bool×Int->Prop)(h:∃r1:Int,vD.C ab ai ax (eZ .u32 bb.bX bb.bZ) r1/\(if r1=0 then ∃r2:List br,qZ.C ai ax r2/\∃bx:ay,sn.C ab r2 bb.bX bx/\aJ bb bx 0 J else J (false,r1))):∃r,J r/\C ab ai ax bb r:=cw Tryz.f7 B W res<|b4 14 h bD λr1 _ h=>g5 4 h g4 g3 (λh=>a7 7 h) λh=>I0 7 h bD (λ(r2:List br)=>GK (l:=r2) (e:=cZ) (e':=cZ) rfl (λ_=>rfl)) (hf:=(λ_=>z8 (g0 (e:=cZ) (λ_=>rfl)))) λr2 _ h=>EY 2 h bD (hf:=(λ_=>LO)) λbx _ h=>c1 0 bM bx<|a1 2 h
end oZ
namespace B3
def B:=cv Tryz.f4
def W:=[0,1,2,3,4,5,6,7,8]
def res(r:Int×List bC×List br×Bool):D×List D:=(.bt [aq r.1,.sl (r.2.1.map c6),.sl (r.2.2.1.map cZ),dm r.2.2.2],[])
def C(ab:uS)(r:Int×List bC×List br×Bool):Prop:=bR env 4 [.agg [.lit (.int .u8 ab.D.N),.sl (ab.D.L.map jV),.sl (ab.M.map jV)]] (res r).1 (res r).2
def bj(ab:uS)(J:Int×List bC×List br×Bool->Prop)(h:∃r1:Int×List bC×Bool,B2.C ab.D r1/\∃r2:List br,sj.C r1.1 ab.M r2/\(if r1.2.2=true then J (r1.1,r1.2.1,r2,(decide ((ab.M.length:Int)<=4)))else J (r1.1,r1.2.1,r2,false))):∃r,J r/\C ab r:=cw Tryz.f4 B W res<|b4 10 h bD (hf:=(λ_=>h3)) λr1 _ h=>I0 14 h bD (λ(r2:List br)=>GK (l:=r2) (e:=cZ) (e':=cZ) rfl (λ_=>rfl)) (hf:=(λ_=>z8 (g0 (e:=cZ) (λ_=>rfl)))) λr2 _ h=>bn 0 h id iR (λh=>c1 3 jV ab.M<|a7 7 h) λh=>a7 11 h
end B3
namespace Je
def B:=cv Tryz.f49
def W:=[0,1,3]
def res(r:Bool):D×List D:=(dm r,[])
def C(ab dq:ay)(r:Bool):Prop:=bR env 49 [.sl (ab.map bc),.ref [.sl (dq.map bc)]] (res r).1 (res r).2
def bj(ab dq:ay)(J:Bool->Prop)(h:∃r1:Bool,vy.C ab dq r1/\J r1):∃r,J r/\C ab dq r:=cw Tryz.f49 B W res<|b4 6 h bD λr1 _ h=>a7 2 h
end Je
namespace BN
def B:=cv Tryz.f74
def W:=[0,1,4,5,7,8,9,16]
def res(r:Int):D×List D:=(aq r,[])
def C(ab:aL)(dq:ay)(r:Int):Prop:=bR env 74 [.sl (ab.map aK),.fn 49 [.ref [.sl (dq.map bc)]]] (res r).1 (res r).2
def aJ(ab:aL)(dq:ay)(z0:Int)(J:Int->Prop):Prop:=ee env 74 W B [1,0,1,0] [(0,.sl (ab.map aK)),(1,.fn 49 [.ref [.sl (dq.map bc)]]),(7,aq (ab.length:Int)),(8,aq z0)] (ec env 74 Tryz.f74 2 res J)
def bE(ab:aL)(dq:ay)(z0:Int)(J:Int->Prop)(h:(if z0<(ab.length:Int)then ∃a2,a_ ab z0=some a2/\∃bx:Bool,Je.C a2 dq bx/\(if bx=true then J z0 else aJ ab dq (aV (z0+1)) J)else J (-1))):aJ ab dq z0 J:=b2<|bn 2 h bJ bI (λh=>eA 11 aK h λa2 aa h=>iy 1 h bD (λ_ h=>a7 6 h) λ_ h=>a1 7 h) λh=>a7 6 h
def bj(ab:aL)(dq:ay)(J:Int->Prop)(h:aJ ab dq 0 J):∃r,J r/\C ab dq r:=cw Tryz.f74 B W res<|c1 5 aK ab<|a1 2 h
end BN
namespace Ps
def B:=cv Tryz.f48
def W:=[0,1,4]
def res(r:Bool):D×List D:=(dm r,[])
def C(ab:aL)(dq:ay)(r:Bool):Prop:=bR env 48 [.sl (ab.map aK),.fn 49 [.ref [.sl (dq.map bc)]]] (res r).1 (res r).2
def bj(ab:aL)(dq:ay)(J:Bool->Prop)(h:∃r1:Int,BN.C ab dq r1/\J (decide (0<=r1))):∃r,J r/\C ab dq r:=cw Tryz.f48 B W res<|b4 6 h bD λr1 _ h=>a7 3 h
end Ps
namespace xA
def B:=cv Tryz.f25
def W:=[0,1,2,3,4]
def res(r:Bool):D×List D:=(dm r,[])
def C(ab:bT)(ai:ay)(r:Bool):Prop:=bR env 25 [.agg [aq ab.bl,.sl (ab.Rows.map aK)],.sl (ai.map bc)] (res r).1 (res r).2
def bj(ab:bT)(ai:ay)(J:Bool->Prop)(h:∃r1:Bool,Ps.C ab.Rows ai r1/\J r1):∃r,J r/\C ab ai r:=cw Tryz.f25 B W res<|b4 9 h bD λr1 _ h=>a7 2 h
end xA
namespace pX
def B:=cv Tryz.f71
def W:=[0,1,2,3,5,10,11,12,13]
def res(r:bT):D×List D:=(.agg [aq r.bl,.own (r.Rows.map (dK bc))],[])
def C(ab r:bT):Prop:=bR env 71 [.agg [aq ab.bl,.sl (ab.Rows.map aK)]] (res r).1 (res r).2
def aJ(ab:bT)(z0:aL)(ar:Int)(J:bT->Prop):Prop:=ee env 71 W B [1,1,0,1,0] [(0,.agg [aq ab.bl,.sl (ab.Rows.map aK)]),(1,.box [aq ab.bl,.sl (ab.Rows.map aK)]),(2,.box [aq 0,.own []]),(3,.box [aq ab.bl,.own (z0.map (dK bc))]),(10,.sl (ab.Rows.map aK)),(11,aq (ab.Rows.length:Int)),(12,aq ar)] (ec env 71 Tryz.f71 1 res J)
def bE(ab:bT)(z0:aL)(ar:Int)(J:bT->Prop)(h:(if ar<(ab.Rows.length:Int)then ∃a2,a_ ab.Rows ar=some a2/\a2.length*8<=140737488355328/\(z0.length+1)*24<=140737488355328/\aJ ab (z0++[a2]) (aV (ar+1)) J else J (⟨ab.bl,z0⟩:bT))):aJ ab z0 ar J:=b2<|bn 2 h bJ bI (λh=>eA 4 aK h λa2 aa h=>h.elim λaB h=>akR 7 (show bR env 97 [.sl (a2.map bc)] (.own (a2.map bc)) []from zT (k:=1) (b:=8) (e:=bc) (l:=a2) (by kernel_rfl) (λ_=>rfl) aB) (hf:=(z8 (g0 (e:=bc) (λ_=>rfl))))<|nq 1 (dK bc) z0 ([a2]) h λh=>a1 7 h) λh=>a7 7 h
def bj(ab:bT)(J:bT->Prop)(h:aJ ab ([]) 0 J):∃r,J r/\C ab r:=cw Tryz.f71 B W res<|c1 14 aK ab.Rows<|a1 2 h
end pX
namespace tD
def B:=cv Tryz.f46
def W:=[0,1,2]
def res(r:bT):D×List D:=(.agg [aq r.bl,.sl (r.Rows.map aK)],[])
def C(aF:Int)(IP:aL)(r:bT):Prop:=bR env 46 [.agg [aq aF,.own (IP.map aK)]] (res r).1 (res r).2
def bj(aF:Int)(IP:aL)(J:bT->Prop)(h:∃r1:aL,BI.C IP r1/\∃r2:(aL×Bool),Fa.C r1 r2/\J (⟨aF,r2.1⟩:bT)):∃r,J r/\C aF IP r:=cw Tryz.f46 B W res<|b4 7 h bD (hf:=(λ_=>h3)) λr1 _ h=>Hh 4 h bD (λ(r2:(aL×Bool))=>App (l:=r2.1) (e:=aK) rfl (λ_=>rfl)) (hf:=(λ_=>h3)) λr2 _ h=>a7 7 h
end tD
namespace BG
def B:=cv Tryz.f101
def W:=[0,1,2,4,5,6,20]
def res(r:bT×Int):D×List D:=(.bt [.agg [aq r.1.bl,.sl (r.1.Rows.map aK)],aq r.2],[])
def C(ab:bT)(ai:ay)(r:bT×Int):Prop:=bR env 101 [.agg [aq ab.bl,.sl (ab.Rows.map aK)],.sl (ai.map bc)] (res r).1 (res r).2
def bj(ab:bT)(ai:ay)(J:bT×Int->Prop)(h:∃r1:bT,pX.C ab r1/\(r1.Rows.length+1)*24<=140737488355328/\∃bx:bT,tD.C r1.bl (r1.Rows++[ai]) bx/\(if 256<(bx.Rows.length:Int)then J ((⟨0,[]⟩:bT),3)else J (bx,0))):∃r,J r/\C ab ai r:=cw Tryz.f101 B W res<|b4 7 h bD (hf:=(λ_=>gO (z2 (e_ rfl (e_ (g0 (e:=(dK bc)) (uB.E5 (λ_=>rfl))) jc))) rfl)) λr1 _ h=>W_ 2 [(1,.sl (ai.map bc)),(4,.box [aq 0,.own []]),(6,.box [aq r1.bl,.own (r1.Rows.map aK)])] (Rf (fS:=[(1,.sl (ai.map bc)),(4,.box [aq 0,.own []]),(6,.box [aq r1.bl,.own (r1.Rows.map (dK bc))])]) (l:=r1.Rows) (e:=bc) (e':=bc) (s:=6) (x:=aq r1.bl) (by kernel_rfl) (by kernel_rfl) (by kernel_rfl) (λ_=>rfl) (by kernel_rfl) (by kernel_rfl))<|nq 5 aK r1.Rows ([ai]) h λh=>b4 5 h bD (hf:=(λ_=>h3)) λbx _ h=>c1 5 aK bx.Rows<|bn 0 h bJ bI (λh=>a7 7 h) λh=>a7 8 h
end BG
namespace lE
def B:=cv Tryz.f98
def W:=[0,1,2,6,7,9,10,11,28]
def res(r:Bool):D×List D:=(dm r,[])
def C(ab ai:ay)(ax:Int)(r:Bool):Prop:=bR env 98 [.sl (ab.map bc),.sl (ai.map bc),cC ax] (res r).1 (res r).2
def P(a:List Nat)(b:Fr)(J:Bool->Prop):Prop:=ee env 98 W B a b (ec env 98 Tryz.f98 3 res J)
def aJ(ab ai:ay)(ax z0:Int)(J:Bool->Prop):Prop:=P [1,0,1,0] [(0,.sl (ab.map bc)),(1,.sl (ai.map bc)),(2,cC ax),(9,aq (ab.length:Int)),(10,aq z0)] J
def bm(ab ai:ay)(ax z0:Int)(J:Bool->Prop):Prop:=P [1,0,1,0,0,1,1,1] [(0,.sl (ab.map bc)),(1,.sl (ai.map bc)),(2,cC ax),(9,aq (ab.length:Int)),(10,aq z0)] J
def bE(ab ai:ay)(ax z0:Int)(J:Bool->Prop)(h:(if z0<(ab.length:Int)then 0<=z0/\(if(dW .u32 (ft .u32 ax z0) 1)=1 then ∃bA,a_ ab z0=some bA/\∃a4,a_ ai z0=some a4/\(if bA=a4 then bm ab ai ax z0 J else J false)else bm ab ai ax z0 J)else J true)):aJ ab ai ax z0 J:=b2<|bn 2 h bJ bI (λh=>h.elim λI h=>ma 10 (p_ (t:=35) (q:=.u32) (q':=.i64) (i1:=ax) I)<|bn 1 h g2 g1 (λh=>eA 3 bc h λbA aB h=>eA 3 bc h λa4 bO h=>g5 1 h g4 g3 (λh=>a7 6 h) λh=>a1 4 h) λh=>a1 14 h) λh=>a7 6 h
def cU(ab ai:ay)(ax z0:Int)(J:Bool->Prop)(h:aJ ab ai ax (aV (z0+1)) J):bm ab ai ax z0 J:=b2<|a1 4 h
def bj(ab ai:ay)(ax:Int)(J:Bool->Prop)(h:aJ ab ai ax 0 J):∃r,J r/\C ab ai ax r:=cw Tryz.f98 B W res<|c1 5 bc ab<|a1 2 h
end lE
namespace jP
def B:=cv Tryz.f100
def W:=[0,1,2,3,4,8,9,11,12,13,15,16,20,21,22,23,44,46,47,48,49,53,54,55,64]
def res(r:bT):D×List D:=(.agg [aq r.bl,.sl (r.Rows.map aK)],[])
def C(ab:bT)(ai ax bb:Int)(r:bT):Prop:=bR env 100 [.agg [aq ab.bl,.sl (ab.Rows.map aK)],cC ai,aq ax,aq bb] (res r).1 (res r).2
def P(a:List Nat)(b:Fr)(J:bT->Prop):Prop:=ee env 100 W B a b (ec env 100 Tryz.f100 4 res J)
def aJ(ax bb:Int)(r1:bT)(z0:aL)(r2:ay)(ar:Int)(J:bT->Prop):Prop:=P [1,1,0,1,0] [(2,aq ax),(3,aq bb),(8,.box [aq 0,.own []]),(9,.box [aq r1.bl,.own (z0.map (dK bc))]),(20,.own (r2.map bc)),(21,aq (r2.length:Int)),(22,aq ar)] J
def fX(ax bb:Int)(r1:bT)(z0:aL)(r2:ay)(ar:Int)(J:bT->Prop):Prop:=P [1,1,0,1,0,0,1,1,1] [(2,aq ax),(3,aq bb),(8,.box [aq 0,.own []]),(9,.box [aq r1.bl,.own (z0.map (dK bc))]),(20,.own (r2.map bc)),(21,aq (r2.length:Int)),(22,aq ar)] J
def bm(ax bb:Int)(r1:bT)(z0:aL)(cX eY:Int)(r2:ay)(ar aI z3:Int)(J:bT->Prop):Prop:=P [1,1,0,1,0,0,1,1,0,0,1,1,1,1,0] [(2,aq ax),(3,aq bb),(8,.box [aq 0,.own []]),(9,.box [aq r1.bl,.own (z0.map (dK bc))]),(12,aq cX),(13,aq eY),(20,.own (r2.map bc)),(21,aq (r2.length:Int)),(22,aq ar),(46,.alias 9 [(0,1)]),(47,aq aI),(48,aq z3)] J
def cd(ax bb:Int)(r1:bT)(z0:aL)(cX eY nz:Int)(r2:ay)(ar aI:Int)(z3 z4 dg:Int)(J:bT->Prop):Prop:=P [1,1,0,1,0,0,1,1,0,0,1,1,1,1,0,0,1,1,0,0,1,1,0] [(2,aq ax),(3,aq bb),(8,.box [aq 0,.own []]),(9,.box [aq r1.bl,.own (z0.map (dK bc))]),(12,aq cX),(13,aq eY),(15,.alias 9 [(0,1),((nz.toNat),0)]),(20,.own (r2.map bc)),(21,aq (r2.length:Int)),(22,aq ar),(46,.alias 9 [(0,1)]),(47,aq aI),(48,aq z3),(53,aq z4),(54,aq dg)] J
def h5(ax bb:Int)(r1:bT)(z0:aL)(cX eY FI:Int)(r2:ay)(ar aI:Int)(z3 z4 dg:Int)(J:bT->Prop):Prop:=P [1,1,0,1,0,0,1,1,0,0,1,1,1,1,0,0,1,1,0,0,1,1,0,0,1,1,1] [(2,aq ax),(3,aq bb),(8,.box [aq 0,.own []]),(9,.box [aq r1.bl,.own (z0.map (dK bc))]),(12,aq cX),(13,aq eY),(15,.alias 9 [(0,1),((FI.toNat),0)]),(20,.own (r2.map bc)),(21,aq (r2.length:Int)),(22,aq ar),(46,.alias 9 [(0,1)]),(47,aq aI),(48,aq z3),(53,aq z4),(54,aq dg)] J
def bE(ax bb:Int)(r1:bT)(z0:aL)(r2:ay)(ar:Int)(J:bT->Prop)(h:(if ar<(r2.length:Int)then ∃a3,a_ r2 ar=some a3/\∃cj,a_ z0 ax=some cj/\∃cX,a_ cj a3=some cX/\∃a9,a_ z0 bb=some a9/\∃eY,a_ a9 a3=some eY/\(if cX=eY then fX ax bb r1 z0 r2 ar J else bm ax bb r1 z0 cX eY r2 ar (z0.length:Int) 0 J)else ∃tF:bT,tD.C r1.bl z0 tF/\J tF)):aJ ax bb r1 z0 r2 ar J:=b2<|bn 2 h bJ bI (λh=>cG 4 bc h λa3 aW h=>cY 0 bc aW<|cG 6 (dK bc) h λcj c7 h=>cY 0 (dK bc) c7<|h.elim λcX h=>h.elim λdL h=>fe 1 (zQ (s:=9) (ps:=[(0,1),((ax.toNat),0)]) (t:=74) (x:=(.tmp 30)) (ix:=(.tmp 31)) (et:=3) (k:=1) (e:=bc) (l:=cj) (i:=a3) (q:=.i64) (a:=cX) (by kernel_rfl) (by kernel_rfl) (sD (ps:=[(0,1)]) (e:=(dK bc)) (l:=z0) (n:=(ax.toNat)) (a:=cj) (c:=0) (by kernel_rfl) (hd c7).2 (by kernel_rfl)) (by kernel_rfl) (by kernel_rfl) (by kernel_rfl) dL (by kernel_rfl))<|fe 0 (zL (t:=3) (x:=(.tmp 32)) (s:=9) (ps:=[(0,1),((ax.toNat),0)]) (n:=(a3.toNat)) (c:=0) (e:=bc) (l:=cj) (a:=cX) (d:=aq cX) (by kernel_rfl) (by kernel_rfl) (sD (ps:=[(0,1)]) (e:=(dK bc)) (l:=z0) (n:=(ax.toNat)) (a:=cj) (c:=0) (by kernel_rfl) (hd c7).2 (by kernel_rfl)) (by kernel_rfl) (hd dL).2 (by kernel_rfl))<|cG 3 (dK bc) h λa9 py h=>cY 0 (dK bc) py<|h.elim λeY h=>h.elim λlY h=>
 fe 1 (zQ (s:=9) (ps:=[(0,1),((bb.toNat),0)]) (t:=74) (x:=(.tmp 38)) (ix:=(.tmp 39)) (et:=3) (k:=1) (e:=bc) (l:=a9) (i:=a3) (q:=.i64) (a:=eY) (by kernel_rfl) (by kernel_rfl) (sD (ps:=[(0,1)]) (e:=(dK bc)) (l:=z0) (n:=(bb.toNat)) (a:=a9) (c:=0) (by kernel_rfl) (hd py).2 (by kernel_rfl)) (by kernel_rfl) (by kernel_rfl) (by kernel_rfl) lY (by kernel_rfl))<|fe 0 (zL (t:=3) (x:=(.tmp 40)) (s:=9) (ps:=[(0,1),((bb.toNat),0)]) (n:=(a3.toNat)) (c:=0) (e:=bc) (l:=a9) (a:=eY) (d:=aq eY) (by kernel_rfl) (by kernel_rfl) (sD (ps:=[(0,1)]) (e:=(dK bc)) (l:=z0) (n:=(bb.toNat)) (a:=a9) (c:=0) (by kernel_rfl) (hd py).2 (by kernel_rfl)) (by kernel_rfl) (hd lY).2 (by kernel_rfl))<|bn 6 h g2 g1 (λh=>a1 3 h) λh=>c1 6 (dK bc) z0<|a1 2 h) λh=>I1 2 [(8,.box [aq 0,.own []]),(9,.box [aq r1.bl,.own (z0.map aK)])] (Rf (fS:=[(8,.box [aq 0,.own []]),(9,.box [aq r1.bl,.own (z0.map (dK bc))])]) (l:=z0) (e:=bc) (e':=bc) (s:=9) (x:=aq r1.bl) (by kernel_rfl) (by kernel_rfl) (by kernel_rfl) (λ_=>rfl) (by kernel_rfl) (by kernel_rfl))<|b4 2 h bD (hf:=(λ_=>h3)) λtF _ h=>a7 2 h
def kT(ax bb:Int)(r1:bT)(z0:aL)(r2:ay)(ar:Int)(J:bT->Prop)(h:aJ ax bb r1 z0 r2 (aV (ar+1)) J):fX ax bb r1 z0 r2 ar J:=b2<|a1 4 h
def cU(ax bb:Int)(r1:bT)(z0:aL)(cX eY:Int)(r2:ay)(ar aI z3:Int)(J:bT->Prop)(h:(if z3<aI then ∃jh,a_ z0 z3=some jh/\cd ax bb r1 z0 cX eY z3 r2 ar aI z3 (jh.length:Int) 0 J else fX ax bb r1 z0 r2 ar J)):bm ax bb r1 z0 cX eY r2 ar aI z3 J:=b2<|bn 2 h bJ bI (λh=>cG 4 (dK bc) h λjh pz h=>cY 0 (dK bc) pz<|fe 4 (GW (x:=(.tmp 52)) (t:=74) (et:=3) (d:=.alias 9 [(0,1),((z3.toNat),0)]) (e:=bc) (l:=jh) (by kernel_rfl) (by kernel_rfl) (tY (sD (ps:=[(0,1)]) (e:=(dK bc)) (l:=z0) (n:=(z3.toNat)) (a:=jh) (c:=0) (by kernel_rfl) (hd pz).2 (by kernel_rfl))) (by kernel_rfl))<|a1 2 h) λh=>a1 3 h
def fp(ax bb:Int)(r1:bT)(z0:aL)(cX eY nz:Int)(r2:ay)(ar aI:Int)(z3 z4 dg:Int)(J:bT->Prop)(h:∃oF,a_ z0 nz=some oF/\(if dg<z4 then ∃m4,a_ oF dg=some m4/\(if m4=(imax cX eY)then h5 ax bb r1 (b7 z0 nz (b7 oF dg (tt cX eY))) cX eY nz r2 ar aI z3 z4 dg J else h5 ax bb r1 z0 cX eY nz r2 ar aI z3 z4 dg J)else bm ax bb r1 z0 cX eY r2 ar aI (aV (z3+1)) J)):cd ax bb r1 z0 cX eY nz r2 ar aI z3 z4 dg J:=b2<|h.elim λoF h=>h.elim λuX h=>bn 2 h bJ bI (λh=>h.elim λm4 h=>h.elim λs7 h=>fe 10 (zQ (s:=9) (ps:=[(0,1),((nz.toNat),0)]) (t:=74) (x:=(.tmp 57)) (ix:=(.tmp 58)) (et:=3) (k:=1) (e:=bc) (l:=oF) (i:=dg) (q:=.i64) (a:=m4) (by kernel_rfl) (by kernel_rfl) (sD (ps:=[(0,1)]) (e:=(dK bc)) (l:=z0) (n:=(nz.toNat)) (a:=oF) (c:=0) (by kernel_rfl) (hd uX).2 (by kernel_rfl)) (by kernel_rfl) (by kernel_rfl) (by kernel_rfl) s7 (by kernel_rfl))<|fe 0 (zL (t:=3) (x:=(.tmp 59)) (s:=9) (ps:=[(0,1),((nz.toNat),0)]) (n:=(dg.toNat)) (c:=0) (e:=bc) (l:=oF) (a:=m4) (d:=aq m4) (by kernel_rfl) (by kernel_rfl) (sD (ps:=[(0,1)]) (e:=(dK bc)) (l:=z0) (n:=(nz.toNat)) (a:=oF) (c:=0) (by kernel_rfl) (hd uX).2 (by kernel_rfl)) (by kernel_rfl) (hd s7).2 (by kernel_rfl))<|bn 3 h g2 g1 (λh=>fe 8 (zQ (s:=9) (ps:=[(0,1),((nz.toNat),0)]) (t:=74) (x:=(.tmp 65)) (ix:=(.tmp 66)) (et:=3) (k:=1) (e:=bc) (l:=oF) (i:=dg) (q:=.i64) (a:=m4) (by kernel_rfl) (by kernel_rfl) (sD (ps:=[(0,1)]) (e:=(dK bc)) (l:=z0) (n:=(nz.toNat)) (a:=oF) (c:=0) (by kernel_rfl) (hd uX).2 (by kernel_rfl)) (by kernel_rfl) (by kernel_rfl) (by kernel_rfl) s7 (by kernel_rfl)) <|
 vn 0 (afU (t:=3) (x:=(.tmp 70)) (y:=(.tmp 69)) (s:=9) (ps:=[(0,1),((nz.toNat),0)]) (n:=(dg.toNat)) (c:=0) (e:=bc) (l:=oF) (a:=m4) (b:=(tt cX eY)) (k:=1) (d:=aq (tt cX eY)) (by kernel_rfl) (by kernel_rfl) (by kernel_rfl) (sD (ps:=[(0,1)]) (e:=(dK bc)) (l:=z0) (n:=(nz.toNat)) (a:=oF) (c:=0) (by kernel_rfl) (hd uX).2 (by kernel_rfl)) (hd s7).2 (by kernel_rfl) (by kernel_rfl) (by kernel_rfl) (by kernel_rfl) (by kernel_rfl) (abr (ps:=[(0,1)]) (e:=(dK bc)) (l:=z0) (n:=(nz.toNat)) (a:=oF) (c:=0) (b:=(b7 oF dg (tt cX eY))) (by kernel_rfl) (hd uX).2 (by kernel_rfl) (by kernel_rfl) (Db (by kernel_rfl))))<|a1 1 h) λh=>a1 3 h) λh=>a1 7 h
def oB(ax bb:Int)(r1:bT)(z0:aL)(cX eY FI:Int)(r2:ay)(ar aI:Int)(z3 z4 dg:Int)(J:bT->Prop)(h:∃a20,a_ z0 FI=some a20/\cd ax bb r1 z0 cX eY FI r2 ar aI z3 z4 (aV (dg+1)) J):h5 ax bb r1 z0 cX eY FI r2 ar aI z3 z4 dg J:=b2<|h.elim λa20 h=>h.elim λD2 h=>a1 4 h
def bj(ab:bT)(ai ax bb:Int)(J:bT->Prop)(h:∃r1:bT,pX.C ab r1/\∃r2:ay,sh.C ai r2/\aJ ax bb r1 r1.Rows r2 0 J):∃r,J r/\C ab ai ax bb r:=cw Tryz.f100 B W res<|b4 6 h bD (hf:=(λ_=>gO (z2 (e_ rfl (e_ (g0 (e:=(dK bc)) (uB.E5 (λ_=>rfl))) jc))) rfl)) λr1 _ h=>b4 5 h bD (hf:=(λ_=>gO (g0 (e:=bc) (λ_=>rfl)) rfl)) λr2 _ h=>c1 0 bc r2<|a1 2 h
end jP
namespace pY
def B:=cv Tryz.f99
def W:=[0,1,2,6,7,8,12,13,14,20]
def res(r:ay):D×List D:=(.own (r.map bc),[])
def C(ab ai:ay)(ax:Int)(r:ay):Prop:=bR env 99 [.sl (ab.map bc),.sl (ai.map bc),cC ax] (res r).1 (res r).2
def P(a:List Nat)(b:Fr)(J:ay->Prop):Prop:=ee env 99 W B a b (ec env 99 Tryz.f99 3 res J)
def aJ(ab:ay)(ax:Int)(ai:ay)(z0 ar:Int)(J:ay->Prop):Prop:=P [1,1,0,1,0] [(0,.sl (ab.map bc)),(2,cC ax),(7,.own (ai.map bc)),(12,aq z0),(13,aq ar)] J
def bm(ab:ay)(ax:Int)(z0:ay)(ar aI:Int)(J:ay->Prop):Prop:=P [1,1,0,1,0,0,1,1,1] [(0,.sl (ab.map bc)),(2,cC ax),(7,.own (z0.map bc)),(12,aq ar),(13,aq aI)] J
def bE(ab:ay)(ax:Int)(ai:ay)(z0 ar:Int)(J:ay->Prop)(h:(if ar<z0 then 0<=ar/\(if(dW .u32 (ft .u32 ax ar) 1)=1 then ∃a3,a_ ab ar=some a3/\∃cj,a_ ai ar=some cj/\bm ab ax (b7 ai ar a3) z0 ar J else bm ab ax ai z0 ar J)else J ai)):aJ ab ax ai z0 ar J:=b2<|bn 2 h bJ bI (λh=>h.elim λaa h=>ma 10 (p_ (t:=35) (q:=.u32) (q':=.i64) (i1:=ax) aa)<|bn 1 h g2 g1 (λh=>eA 7 bc h λa3 aW h=>cG 1 bc h λcj c7 h=>iI 0 bc a3 c7<|a1 1 h) λh=>a1 3 h) λh=>a7 7 h
def cU(ab:ay)(ax:Int)(z0:ay)(ar aI:Int)(J:ay->Prop)(h:aJ ab ax z0 ar (aV (aI+1)) J):bm ab ax z0 ar aI J:=b2<|a1 4 h
def bj(ab ai:ay)(ax:Int)(J:ay->Prop)(h:ai.length*8<=140737488355328/\aJ ab ax ai (ai.length:Int) 0 J):∃r,J r/\C ab ai ax r:=cw Tryz.f99 B W res<|h.elim λI h=>wG 5 (show bR env 97 [.sl (ai.map bc)] (.own (ai.map bc)) []from zT (k:=1) (b:=8) (e:=bc) (l:=ai) (by kernel_rfl) (λ_=>rfl) I) (hf:=(gO (g0 (e:=bc) (λ_=>rfl)) rfl))<|c1 4 bc ai<|a1 2 h
end pY
namespace Fu
def B:=cv Tryz.f73
def W:=[0,1,2,3,4,7,8,9,10,11,12,27,37,61]
def res(r:bT×Int):D×List D:=(.bt [.agg [aq r.1.bl,.sl (r.1.Rows.map aK)],aq r.2],[])
def C(ab:bT)(ai:List bC)(ax:List br)(bb:gh)(r:bT×Int):Prop:=bR env 73 [.agg [aq ab.bl,.sl (ab.Rows.map aK)],.sl (ai.map c6),.sl (ax.map cZ),.agg [dm bb.Hr,aq bb.Index,aq bb.A,aq bb.B]] (res r).1 (res r).2
def bj(ab:bT)(ai:List bC)(ax:List br)(bb:gh)(J:bT×Int->Prop)(h:∃a2,a_ ab.Rows bb.A=some a2/\∃a3,a_ ab.Rows bb.B=some a3/\(if bb.Hr=true then ∃cj,a_ ax bb.Index=some cj/\∃sq:Bool,lE.C a2 a3 cj.bX sq/\(if sq=true then ∃iX:ay,pY.C a2 a3 (eZ .u32 cj.bX cj.bZ) iX/\∃nv:bT×Int,BG.C ab iX nv/\J (nv.1,nv.2)else J ((⟨0,[]⟩:bT),1))else ∃j2,a_ ai bb.Index=some j2/\∃vE:Bool,lE.C a2 a3 j2.bX vE/\(if vE=true then ∃tF:bT,jP.C ab j2.bZ bb.A bb.B tF/\J (tF,0)else J ((⟨0,[]⟩:bT),1)))):∃r,J r/\C ab ai ax bb r:=cw Tryz.f73 B W res<|eA 11 aK h λa2 aa h=>eA 5 aK h λa3 aW h=>bn 6 h id iR (λh=>eA 8 cZ h λcj c7 h=>iy 9 h bD (λ_ h=>I0 13 h bD (λ(iX:ay)=>GK (l:=iX) (e:=bc) (e':=bc) rfl (λ_=>rfl)) (hf:=(λ_=>z8 (g0 (e:=bc) (λ_=>rfl)))) λiX _ h=>b4 0 h bD (hf:=(λ_=>h3)) λnv _ h=>a7 5 h) λ_ h=>a7 8 h) λh=>eA 9 c6 h λj2 oJ h=>iy 2 h bD (λ_ h=>xo 9 c6 oJ<|b4 6 h bD (hf:=(λ_=>h3)) λtF _ h=>a7 3 h) λ_ h=>a7 8 h
end Fu
namespace Pt
def B:=cv Tryz.f129
def W:=[0,2]
def res(r:Bool):D×List D:=(dm r,[])
def C(ab:Int)(r:Bool):Prop:=bR env 129 [aq ab] (res r).1 (res r).2
def bj(ab:Int)(J:Bool->Prop)(h:J (decide (ab<0))):∃r,J r/\C ab r:=cw Tryz.f129 B W res<|a7 8 h
end Pt
namespace BO
def B:=cv Tryz.f104
def W:=[0,1,4,5,7,8,9,16]
def res(r:Int):D×List D:=(aq r,[])
def C(ab:ay)(r:Int):Prop:=bR env 104 [.sl (ab.map bc),.fn 129 []] (res r).1 (res r).2
def aJ(ab:ay)(z0:Int)(J:Int->Prop):Prop:=ee env 104 W B [1,0,1,0] [(0,.sl (ab.map bc)),(1,.fn 129 []),(7,aq (ab.length:Int)),(8,aq z0)] (ec env 104 Tryz.f104 2 res J)
def bE(ab:ay)(z0:Int)(J:Int->Prop)(h:(if z0<(ab.length:Int)then ∃a2,a_ ab z0=some a2/\∃bx:Bool,Pt.C a2 bx/\(if bx=true then J z0 else aJ ab (aV (z0+1)) J)else J (-1))):aJ ab z0 J:=b2<|bn 2 h bJ bI (λh=>eA 11 bc h λa2 aa h=>iy 1 h bD (λ_ h=>a7 6 h) λ_ h=>a1 7 h) λh=>a7 6 h
def bj(ab:ay)(J:Int->Prop)(h:aJ ab 0 J):∃r,J r/\C ab r:=cw Tryz.f104 B W res<|c1 5 bc ab<|a1 2 h
end BO
namespace I_
def B:=cv Tryz.f84
def W:=[0,1,4]
def res(r:Bool):D×List D:=(dm r,[])
def C(ab:ay)(r:Bool):Prop:=bR env 84 [.sl (ab.map bc),.fn 129 []] (res r).1 (res r).2
def bj(ab:ay)(J:Bool->Prop)(h:∃r1:Int,BO.C ab r1/\J (decide (0<=r1))):∃r,J r/\C ab r:=cw Tryz.f84 B W res<|b4 6 h bD λr1 _ h=>a7 3 h
end I_
namespace so
def B:=cv Tryz.f96
def W:=[0,1,2,3,4,18,20,21,22,23,35,48]
def res(r:Bool):D×List D:=(dm r,[])
def C(ab:bT)(r:Bool):Prop:=bR env 96 [.agg [aq ab.bl,.sl (ab.Rows.map aK)]] (res r).1 (res r).2
def P(a:List Nat)(b:Fr)(J:Bool->Prop):Prop:=ee env 96 W B a b (ec env 96 Tryz.f96 1 res J)
def aJ(ab:bT)(z0:Int)(J:Bool->Prop):Prop:=P [1,1,0,1,0] [(0,.agg [aq ab.bl,.sl (ab.Rows.map aK)]),(1,.box [aq ab.bl,.sl (ab.Rows.map aK)]),(20,.sl (ab.Rows.map aK)),(21,aq (ab.Rows.length:Int)),(22,aq z0)] J
def bm(ab:bT)(z0:Int)(J:Bool->Prop):Prop:=P [1,1,0,1,0,0,1,1,1] [(0,.agg [aq ab.bl,.sl (ab.Rows.map aK)]),(1,.box [aq ab.bl,.sl (ab.Rows.map aK)]),(20,.sl (ab.Rows.map aK)),(21,aq (ab.Rows.length:Int)),(22,aq z0)] J
def bE(ab:bT)(z0:Int)(J:Bool->Prop)(h:(if z0<(ab.Rows.length:Int)then ∃a2,a_ ab.Rows z0=some a2/\(if(a2.length:Int)=ab.bl then ∃bx:Bool,I_.C a2 bx/\(if bx=true then J false else(if 0<z0 then ∃a4,a_ ab.Rows (aV (z0-1))=some a4/\∃nu:Int,jm.C a4 a2 nu/\(if 0<=nu then J false else bm ab z0 J)else bm ab z0 J))else J false)else J true)):aJ ab z0 J:=b2<|bn 2 h bJ bI (λh=>eA 5 aK h λa2 aa h=>c1 6 bc a2<|g5 2 h g4 g3 (λh=>a7 9 h) λh=>iy 2 h bD (λ_ h=>a7 6 h) λ_ h=>bn 6 h bJ bI (λh=>eA 5 aK h λa4 bO h=>b4 2 h bD λnu _ h=>bn 0 h bJ bI (λh=>a7 6 h) λh=>a1 4 h) λh=>a1 14 h) λh=>a7 6 h
def cU(ab:bT)(z0:Int)(J:Bool->Prop)(h:aJ ab (aV (z0+1)) J):bm ab z0 J:=b2<|a1 4 h
def bj(ab:bT)(J:Bool->Prop)(h:(if ab.bl<0 then J false else(if 16<ab.bl then J false else(if 256<(ab.Rows.length:Int)then J false else aJ ab 0 J)))):∃r,J r/\C ab r:=cw Tryz.f96 B W res<|bn 7 h bJ bI (λh=>a7 16 h) λh=>bn 3 h bJ bI (λh=>a7 12 h) λh=>c1 4 aK ab.Rows<|bn 0 h bJ bI (λh=>a7 6 h) λh=>c1 7 aK ab.Rows<|a1 2 h
end so
namespace Pu
def B:=cv Tryz.f70
def W:=[0,1,2,3,6,9]
def res(r:Int):D×List D:=(aq r,[])
def C(ab:bT)(ai:List bC)(ax:List br)(r:Int):Prop:=bR env 70 [.agg [aq ab.bl,.sl (ab.Rows.map aK)],.sl (ai.map c6),.sl (ax.map cZ)] (res r).1 (res r).2
def bj(ab:bT)(ai:List bC)(ax:List br)(J:Int->Prop)(h:∃r1:Bool,so.C ab r1/\(if r1=true then ∃r2:Int,mN.C ab.bl ai ax r2/\J r2 else J 1)):∃r,J r/\C ab ai ax r:=cw Tryz.f70 B W res<|iy 6 h bD (λ_ h=>b4 9 h bD λr2 _ h=>a7 2 h) λ_ h=>a7 6 h
end Pu
namespace ir
def B:=cv Tryz.f72
def W:=[0,1,2,3,6,7,8,9,10,11,12,13,14,15,16,17,18,19,25,26,27,31,32,33,63,71,72,73,74,80,81,82,86,87,88,123]
def res(r:gh×Bool):D×List D:=(.bt [.agg [dm r.1.Hr,aq r.1.Index,aq r.1.A,aq r.1.B],dm r.2],[])
def C(ab:bT)(ai:List bC)(ax:List br)(r:gh×Bool):Prop:=bR env 72 [.agg [aq ab.bl,.sl (ab.Rows.map aK)],.sl (ai.map c6),.sl (ax.map cZ)] (res r).1 (res r).2
def P(a:List Nat)(b:Fr)(J:gh×Bool->Prop):Prop:=ee env 72 W B a b (ec env 72 Tryz.f72 3 res J)
def aJ(ab:bT)(ai:List bC)(ax:List br)(z0:Int)(J:gh×Bool->Prop):Prop:=P [1,0,1,0] [(0,.agg [aq ab.bl,.sl (ab.Rows.map aK)]),(1,.sl (ai.map c6)),(2,.sl (ax.map cZ)),(3,.box [aq ab.bl,.sl (ab.Rows.map aK)]),(6,.box [dm false,aq 0,aq 0,aq 0]),(16,.sl (ai.map c6)),(17,aq (ai.length:Int)),(18,aq z0)] J
def bm(ab:bT)(ai:List bC)(ax:List br)(z0:Int)(a2:bC)(ar aI:Int)(J:gh×Bool->Prop):Prop:=P [1,0,1,0,0,1,1,0,0,1,1,0] [(0,.agg [aq ab.bl,.sl (ab.Rows.map aK)]),(1,.sl (ai.map c6)),(2,.sl (ax.map cZ)),(3,.box [aq ab.bl,.sl (ab.Rows.map aK)]),(6,.box [dm false,aq 0,aq 0,aq 0]),(8,aq z0),(9,.box [cC a2.bX,cC a2.bZ]),(16,.sl (ai.map c6)),(17,aq (ai.length:Int)),(18,aq ar),(25,aq (ab.Rows.length:Int)),(26,aq aI)] J
def cd(ab:bT)(ax:List br)(z0:Int)(J:gh×Bool->Prop):Prop:=P [1,1,0,1,0] [(0,.agg [aq ab.bl,.sl (ab.Rows.map aK)]),(2,.sl (ax.map cZ)),(3,.box [aq ab.bl,.sl (ab.Rows.map aK)]),(6,.box [dm false,aq 0,aq 0,aq 0]),(71,.sl (ax.map cZ)),(72,aq (ax.length:Int)),(73,aq z0)] J
def fX(ab:bT)(ai:List bC)(ax:List br)(z0:Int)(a2:bC)(ar aI:Int)(z3 z4:Int)(J:gh×Bool->Prop):Prop:=P [1,0,1,0,0,1,1,0,0,1,1,0,0,1,1,0,0,1,1,0] [(0,.agg [aq ab.bl,.sl (ab.Rows.map aK)]),(1,.sl (ai.map c6)),(2,.sl (ax.map cZ)),(3,.box [aq ab.bl,.sl (ab.Rows.map aK)]),(6,.box [dm false,aq 0,aq 0,aq 0]),(8,aq z0),(9,.box [cC a2.bX,cC a2.bZ]),(10,aq ar),(16,.sl (ai.map c6)),(17,aq (ai.length:Int)),(18,aq aI),(25,aq (ab.Rows.length:Int)),(26,aq z3),(31,aq (ab.Rows.length:Int)),(32,aq z4)] J
def h5(ab:bT)(ax:List br)(z0:Int)(a3:br)(ar aI:Int)(J:gh×Bool->Prop):Prop:=P [1,1,0,1,0,0,1,1,0,0,1,1,0] [(0,.agg [aq ab.bl,.sl (ab.Rows.map aK)]),(2,.sl (ax.map cZ)),(3,.box [aq ab.bl,.sl (ab.Rows.map aK)]),(6,.box [dm false,aq 0,aq 0,aq 0]),(12,aq z0),(13,.box [cC a3.bX,cC a3.bZ]),(71,.sl (ax.map cZ)),(72,aq (ax.length:Int)),(73,aq ar),(80,aq (ab.Rows.length:Int)),(81,aq aI)] J
def js(ab:bT)(ai:List bC)(ax:List br)(z0:Int)(a2:bC)(ar aI:Int)(z3 z4:Int)(J:gh×Bool->Prop):Prop:=P [1,0,1,0,0,1,1,0,0,1,1,0,0,1,1,0,0,1,1,0,0,1,1,1] [(0,.agg [aq ab.bl,.sl (ab.Rows.map aK)]),(1,.sl (ai.map c6)),(2,.sl (ax.map cZ)),(3,.box [aq ab.bl,.sl (ab.Rows.map aK)]),(6,.box [dm false,aq 0,aq 0,aq 0]),(8,aq z0),(9,.box [cC a2.bX,cC a2.bZ]),(10,aq ar),(16,.sl (ai.map c6)),(17,aq (ai.length:Int)),(18,aq aI),(25,aq (ab.Rows.length:Int)),(26,aq z3),(31,aq (ab.Rows.length:Int)),(32,aq z4)] J
def kj(ab:bT)(ax:List br)(z0:Int)(a3:br)(ar aI:Int)(z3 z4:Int)(J:gh×Bool->Prop):Prop:=P [1,1,0,1,0,0,1,1,0,0,1,1,0,0,1,1,0,0,1,1,0] [(0,.agg [aq ab.bl,.sl (ab.Rows.map aK)]),(2,.sl (ax.map cZ)),(3,.box [aq ab.bl,.sl (ab.Rows.map aK)]),(6,.box [dm false,aq 0,aq 0,aq 0]),(12,aq z0),(13,.box [cC a3.bX,cC a3.bZ]),(14,aq ar),(71,.sl (ax.map cZ)),(72,aq (ax.length:Int)),(73,aq aI),(80,aq (ab.Rows.length:Int)),(81,aq z3),(86,aq (ab.Rows.length:Int)),(87,aq z4)] J
def wO(ab:bT)(ax:List br)(z0:Int)(a3:br)(ar aI:Int)(z3 z4:Int)(J:gh×Bool->Prop):Prop:=P [1,1,0,1,0,0,1,1,0,0,1,1,0,0,1,1,0,0,1,1,0,0,1,1,1] [(0,.agg [aq ab.bl,.sl (ab.Rows.map aK)]),(2,.sl (ax.map cZ)),(3,.box [aq ab.bl,.sl (ab.Rows.map aK)]),(6,.box [dm false,aq 0,aq 0,aq 0]),(12,aq z0),(13,.box [cC a3.bX,cC a3.bZ]),(14,aq ar),(71,.sl (ax.map cZ)),(72,aq (ax.length:Int)),(73,aq aI),(80,aq (ab.Rows.length:Int)),(81,aq z3),(86,aq (ab.Rows.length:Int)),(87,aq z4)] J
def bE(ab:bT)(ai:List bC)(ax:List br)(z0:Int)(J:gh×Bool->Prop)(h:(if z0<(ai.length:Int)then ∃a2,a_ ai z0=some a2/\bm ab ai ax z0 a2 z0 0 J else cd ab ax 0 J)):aJ ab ai ax z0 J:=b2<|bn 2 h bJ bI (λh=>eA 5 c6 h λa2 aa h=>c1 8 aK ab.Rows<|a1 2 h) λh=>c1 5 cZ ax<|a1 2 h
def cU(ab:bT)(ai:List bC)(ax:List br)(z0:Int)(a2:bC)(ar aI:Int)(J:gh×Bool->Prop)(h:(if aI<(ab.Rows.length:Int)then fX ab ai ax z0 a2 aI ar aI 0 J else aJ ab ai ax (aV (ar+1)) J)):bm ab ai ax z0 a2 ar aI J:=b2<|bn 2 h bJ bI (λh=>c1 10 aK ab.Rows<|a1 2 h) λh=>a1 7 h
def fp(ab:bT)(ax:List br)(z0:Int)(J:gh×Bool->Prop)(h:(if z0<(ax.length:Int)then ∃a3,a_ ax z0=some a3/\h5 ab ax z0 a3 z0 0 J else J ((⟨false,0,0,0⟩:gh),false))):cd ab ax z0 J:=b2<|bn 2 h bJ bI (λh=>eA 5 cZ h λa3 aW h=>c1 8 aK ab.Rows<|a1 2 h) λh=>a7 8 h
def kT(ab:bT)(ai:List bC)(ax:List br)(z0:Int)(a2:bC)(ar aI:Int)(z3 z4:Int)(J:gh×Bool->Prop)(h:(if z4<(ab.Rows.length:Int)then ∃cj,a_ ab.Rows ar=some cj/\∃cX,a_ ab.Rows z4=some cX/\∃nv:Bool,lE.C cj cX a2.bX nv/\(if nv=true then ∃jQ:Bool,lE.C cj cX a2.bZ jQ/\(if jQ=true then js ab ai ax z0 a2 ar aI z3 z4 J else J ((⟨false,z0,ar,z4⟩:gh),true))else js ab ai ax z0 a2 ar aI z3 z4 J)else bm ab ai ax z0 a2 aI (aV (z3+1)) J)):fX ab ai ax z0 a2 ar aI z3 z4 J:=b2<|bn 2 h bJ bI (λh=>eA 11 aK h λcj c7 h=>eA 4 aK h λcX dL h=>iy 3 h bD (λ_ h=>xo 4 aK c7<|xo 4 aK dL<|iy 3 h bD (λ_ h=>a1 5 h) λ_ h=>a7 12 h) λ_ h=>a1 19 h) λh=>a1 7 h
def oB(ab:bT)(ax:List br)(z0:Int)(a3:br)(ar aI:Int)(J:gh×Bool->Prop)(h:(if aI<(ab.Rows.length:Int)then kj ab ax z0 a3 aI ar aI 0 J else cd ab ax (aV (ar+1)) J)):h5 ab ax z0 a3 ar aI J:=b2<|bn 2 h bJ bI (λh=>c1 10 aK ab.Rows<|a1 2 h) λh=>a1 7 h
def uH(ab:bT)(ai:List bC)(ax:List br)(z0:Int)(a2:bC)(ar aI:Int)(z3 z4:Int)(J:gh×Bool->Prop)(h:fX ab ai ax z0 a2 ar aI z3 (aV (z4+1)) J):js ab ai ax z0 a2 ar aI z3 z4 J:=b2<|a1 4 h
def sR(ab:bT)(ax:List br)(z0:Int)(a3:br)(ar aI:Int)(z3 z4:Int)(J:gh×Bool->Prop)(h:(if z4<(ab.Rows.length:Int)then ∃eY,a_ ab.Rows ar=some eY/\∃Hz,a_ ab.Rows z4=some Hz/\∃Xj:Bool,lE.C eY Hz a3.bX Xj/\(if Xj=true then ∃nt:ay,pY.C eY Hz (eZ .u32 a3.bX a3.bZ) nt/\∃Fy:Bool,xA.C ab nt Fy/\(if Fy=true then wO ab ax z0 a3 ar aI z3 z4 J else J ((⟨true,z0,ar,z4⟩:gh),true))else wO ab ax z0 a3 ar aI z3 z4 J)else h5 ab ax z0 a3 aI (aV (z3+1)) J)):kj ab ax z0 a3 ar aI z3 z4 J:=b2<|bn 2 h bJ bI (λh=>eA 11 aK h λeY lY h=>eA 4 aK h λHz D1 h=>iy 3 h bD (λ_ h=>xo 5 aK lY<|xo 4 aK D1<|EY 6 h bD (hf:=(λ_=>z8 (g0 (e:=bc) (λ_=>rfl)))) λnt _ h=>iy 0 h bD (hr:=by exact(sg (pb (qb (s:=120) (ps:=[]) (l:=nt) (e:=bc) (e':=bc) (λ_=>rfl) (by kernel_rfl)) qe))) (λ_ h=>a1 5 h) λ_ h=>a7 12 h) λ_ h=>a1 24 h) λh=>a1 7 h
def Hu(ab:bT)(ax:List br)(z0:Int)(a3:br)(ar aI:Int)(z3 z4:Int)(J:gh×Bool->Prop)(h:kj ab ax z0 a3 ar aI z3 (aV (z4+1)) J):wO ab ax z0 a3 ar aI z3 z4 J:=b2<|a1 4 h
def bj(ab:bT)(ai:List bC)(ax:List br)(J:gh×Bool->Prop)(h:aJ ab ai ax 0 J):∃r,J r/\C ab ai ax r:=cw Tryz.f72 B W res<|c1 7 c6 ai<|a1 2 h
end ir
namespace B7
def B:=cv Tryz.f47
def W:=[0,1,2,3,6,7,8,9,10,11,12,13,14,20,33,45]
def res(r:List gh×bT×Int):D×List D:=(.bt [.own (r.1.map JE),.agg [aq r.2.1.bl,.sl (r.2.1.Rows.map aK)],aq r.2.2],[])
def C(ab:bT)(ai:List bC)(ax:List br)(r:List gh×bT×Int):Prop:=bR env 47 [.agg [aq ab.bl,.sl (ab.Rows.map aK)],.sl (ai.map c6),.sl (ax.map cZ)] (res r).1 (res r).2
def aJ(ab:bT)(ai:List bC)(ax:List br)(r2:bT)(z0:List gh)(J:List gh×bT×Int->Prop):Prop:=ee env 47 W B [1,1,1,1,0] [(0,.agg [aq ab.bl,.sl (ab.Rows.map aK)]),(1,.sl (ai.map c6)),(2,.sl (ax.map cZ)),(3,.box [aq r2.bl,.sl (r2.Rows.map aK)]),(7,.box [aq 0,.own []]),(10,.own (z0.map JE))] (ec env 47 Tryz.f47 3 res J)
def bE(ab:bT)(ai:List bC)(ax:List br)(r2:bT)(z0:List gh)(J:List gh×bT×Int->Prop)(h:∃bx:gh×Bool,ir.C r2 ai ax bx/\(if bx.2=true then ∃dv:bT×Int,Fu.C r2 ai ax bx.1 dv/\(if dv.2=0 then(z0.length+1)*32<=140737488355328/\aJ ab ai ax dv.1 (z0++[bx.1]) J else J ([],(⟨0,[]⟩:bT),dv.2))else J (z0,r2,0))):aJ ab ai ax r2 z0 J:=b2<|b4 5 h bD (hf:=(λ_=>gO (mj (e_ (z2 (e_ rfl (e_ rfl (e_ rfl (e_ rfl jc))))) (e_ rfl jc))) rfl)) λbx _ h=>bn 8 h id iR (λh=>b4 9 h bD (hf:=(λ_=>h3)) λdv _ h=>g5 9 h g4 g3 (λh=>a7 9 h) λh=>agd 7 JE z0 ([bx.1]) h λh=>a1 4 h) λh=>a7 10 h
def bj(ab:bT)(ai:List bC)(ax:List br)(J:List gh×bT×Int->Prop)(h:∃r1:Int,Pu.C ab ai ax r1/\(if r1=0 then ∃r2:bT,pX.C ab r2/\aJ ab ai ax r2 ([]) J else J ([],(⟨0,[]⟩:bT),r1))):∃r,J r/\C ab ai ax r:=cw Tryz.f47 B W res<|b4 10 h bD λr1 _ h=>g5 4 h g4 g3 (λh=>a7 9 h) λh=>b4 5 h bD (hf:=(λ_=>gO (z2 (e_ rfl (e_ (g0 (e:=(dK bc)) (uB.E5 (λ_=>rfl))) jc))) rfl)) λr2 _ h=>W_ 1 [(0,.agg [aq ab.bl,.sl (ab.Rows.map aK)]),(1,.sl (ai.map c6)),(2,.sl (ax.map cZ)),(3,.box [aq r2.bl,.sl (r2.Rows.map aK)]),(7,.box [aq 0,.own []])] (YZ (fS:=[(0,.agg [aq ab.bl,.sl (ab.Rows.map aK)]),(1,.sl (ai.map c6)),(2,.sl (ax.map cZ)),(3,.box [aq r2.bl,.own (r2.Rows.map (dK bc))]),(7,.box [aq 0,.own []])]) (l:=r2.Rows) (e:=(dK bc)) (e':=aK) (s:=3) (x:=aq r2.bl) (by kernel_rfl) (by kernel_rfl) (by kernel_rfl) (by kernel_rfl) (by kernel_rfl) (mw.E5 (λ_=>rfl)) (by kernel_rfl) (by kernel_rfl))<|a1 3 h
end B7
namespace Pr
def B:=cv Tryz.f24
def W:=[0,1,2,3,6,7,8,9,10]
def res(r:bT×Int):D×List D:=(.bt [.agg [aq r.1.bl,.sl (r.1.Rows.map aK)],aq r.2],[])
def C(ab:bT)(ai:List bC)(ax:List br)(r:bT×Int):Prop:=bR env 24 [.agg [aq ab.bl,.sl (ab.Rows.map aK)],.sl (ai.map c6),.sl (ax.map cZ)] (res r).1 (res r).2
def bj(ab:bT)(ai:List bC)(ax:List br)(J:bT×Int->Prop)(h:∃r1:List gh×bT×Int,B7.C ab ai ax r1/\J (r1.2.1,r1.2.2)):∃r,J r/\C ab ai ax r:=cw Tryz.f24 B W res<|b4 9 h bD (hf:=(λ_=>h3)) λr1 _ h=>a7 15 h
end Pr
namespace mO
def B:=cv Tryz.f23
def W:=[0,1,4,5,6,7,8,9,10,11,19,26,27,28,29,36,40,41,42,58]
def res(r:bT×Int):D×List D:=(.bt [.agg [aq r.1.bl,.sl (r.1.Rows.map aK)],aq r.2],[])
def C(ab:Int)(ai:ay)(r:bT×Int):Prop:=bR env 23 [aq ab,.sl (ai.map bM)] (res r).1 (res r).2
def P(a:List Nat)(b:Fr)(J:bT×Int->Prop):Prop:=ee env 23 W B a b (ec env 23 Tryz.f23 2 res J)
def aJ(ab:Int)(ai:ay)(z0:aL)(ar:Int)(J:bT×Int->Prop):Prop:=P [1,1,1,0,1,0] [(0,aq ab),(1,.sl (ai.map bM)),(4,.box [aq 0,.own []]),(6,.box [aq ab,.own (z0.map aK)]),(26,.sl (ai.map bM)),(27,aq (ai.length:Int)),(28,aq ar)] J
def bm(ab:Int)(ai:ay)(z0:aL)(ar a2:Int)(aI:ay)(z3 z4:Int)(J:bT×Int->Prop):Prop:=P [1,1,1,0,1,0,0,1,1,0,0,1,1,1,0,1,0] [(0,aq ab),(1,.sl (ai.map bM)),(4,.box [aq 0,.own []]),(6,.box [aq ab,.own (z0.map aK)]),(7,aq ar),(8,cC a2),(9,.own (aI.map bc)),(26,.sl (ai.map bM)),(27,aq (ai.length:Int)),(28,aq z3),(40,aq ab),(41,aq z4)] J
def cd(ab:Int)(ai:ay)(z0:aL)(ar a2:Int)(aI:ay)(z3 z4:Int)(J:bT×Int->Prop):Prop:=P [1,1,1,0,1,0,0,1,1,0,0,1,1,1,0,1,0,0,1,1,1] [(0,aq ab),(1,.sl (ai.map bM)),(4,.box [aq 0,.own []]),(6,.box [aq ab,.own (z0.map aK)]),(7,aq ar),(8,cC a2),(9,.own (aI.map bc)),(26,.sl (ai.map bM)),(27,aq (ai.length:Int)),(28,aq z3),(40,aq ab),(41,aq z4)] J
def bE(ab:Int)(ai:ay)(z0:aL)(ar:Int)(J:bT×Int->Prop)(h:(if ar<(ai.length:Int)then ∃a2,a_ ai ar=some a2/\0<=ab/\(if(ft .u32 a2 ab)=0 then(0<=ab/\ab*8<=281474976710656)/\bm ab ai z0 ar a2 (a6 ab.toNat (0:Int)) ar 0 J else J ((⟨0,[]⟩:bT),1))else ∃dw:bT,tD.C ab z0 dw/\J (dw,0))):aJ ab ai z0 ar J:=b2<|bn 2 h bJ bI (λh=>eA 5 bM h λa2 aa h=>h.elim λaB h=>ma 7 (p_ (t:=35) (q:=.u32) (q':=.i64) (i1:=a2) aB)<|g5 0 h g4 g3 (λh=>a7 7 h) λh=>h.elim λaW h=>fe 5 (C4 (t:=74) (x:=(.tmp 38)) (y:=(.tmp 38)) (q:=.i64) (i:=ab) (et:=3) (z:=aq 0) (e:=bc) (a:=(0:Int)) (k:=8) (by kernel_rfl) (by kernel_rfl) (by kernel_rfl) (by kernel_rfl) (by kernel_rfl) (by kernel_rfl) (by kernel_rfl) (by kernel_rfl) (by kernel_rfl) (by kernel_rfl) aW.1 aW.2)<|a1 6 h) λh=>b4 5 h bD (hf:=(λ_=>h3)) λdw _ h=>a7 3 h
def cU(ab:Int)(ai:ay)(z0:aL)(ar a2:Int)(aI:ay)(z3 z4:Int)(J:bT×Int->Prop)(h:(if z4<ab then ∃eQ,a_ aI z4=some eQ/\0<=z4/\(if(dW .u32 (ft .u32 a2 z4) 1)=1 then ∃a9,a_ (b7 aI z4 (aV ((aV (ab+(aV (ar*ab))))+z4))) z4=some a9/\cd ab ai z0 ar a2 (b7 (b7 aI z4 (aV ((aV (ab+(aV (ar*ab))))+z4))) z4 z4) z3 z4 J else cd ab ai z0 ar a2 (b7 aI z4 (aV ((aV (ab+(aV (ar*ab))))+z4))) z3 z4 J)else(z0.length+1)*24<=140737488355328/\aJ ab ai (z0++[aI]) (aV (z3+1)) J)):bm ab ai z0 ar a2 aI z3 z4 J:=b2<|bn 2 h bJ bI (λh=>cG 17 bc h λeQ gp h=>iI 0 bc (aV ((aV (ab+(aV (ar*ab))))+z4)) gp<|h.elim λdL h=>ma 4 (p_ (t:=35) (q:=.u32) (q':=.i64) (i1:=a2) dL)<|bn 1 h g2 g1 (λh=>cG 6 bc h λa9 py h=>iI 0 bc z4 py<|a1 1 h) λh=>a1 3 h) λh=>I1 2 [(0,aq ab),(1,.sl (ai.map bM)),(4,.box [aq 0,.own []]),(6,.box [aq ab,.own (z0.map aK)]),(9,.sl (aI.map bc)),(26,.sl (ai.map bM)),(27,aq (ai.length:Int)),(28,aq z3)] (Rg (fS:=[(0,aq ab),(1,.sl (ai.map bM)),(4,.box [aq 0,.own []]),(6,.box [aq ab,.own (z0.map aK)]),(9,.own (aI.map bc)),(26,.sl (ai.map bM)),(27,aq (ai.length:Int)),(28,aq z3)]) (l:=aI) (e:=bc) (e':=bc) (s:=9) (by kernel_rfl) (by kernel_rfl) (by kernel_rfl) (λ_=>rfl) (by kernel_rfl) (by kernel_rfl)) <|
 nq 5 aK z0 ([aI]) h λh=>a1 7 h
def fp(ab:Int)(ai:ay)(z0:aL)(ar a2:Int)(aI:ay)(z3 z4:Int)(J:bT×Int->Prop)(h:bm ab ai z0 ar a2 aI z3 (aV (z4+1)) J):cd ab ai z0 ar a2 aI z3 z4 J:=b2<|a1 4 h
def bj(ab:Int)(ai:ay)(J:bT×Int->Prop)(h:(if ab<0 then J ((⟨0,[]⟩:bT),7)else(if 16<ab then J ((⟨0,[]⟩:bT),7)else(if 64<(ai.length:Int)then J ((⟨0,[]⟩:bT),3)else aJ ab ai ([]) 0 J)))):∃r,J r/\C ab ai r:=cw Tryz.f23 B W res<|bn 6 h bJ bI (λh=>a7 12 h) λh=>oV 6 h bJ bI (λh=>a7 5 h) λh=>c1 2 bM ai<|oV 3 h bJ bI (λh=>a7 5 h) λh=>c1 9 bM ai<|a1 2 h
end mO
namespace sk
def B:=cv Tryz.f8
def W:=[0,1,2,3,7,8,9,10,11,12,13,14,15,16,22,31,54,64,69,70,71]
def res(r:Bool×Int):D×List D:=(.bt [dm r.1,aq r.2],[])
def C(ab:Int)(ai:List bC)(ax:List br)(bb:br)(r:Bool×Int):Prop:=bR env 8 [aq ab,.sl (ai.map c6),.sl (ax.map cZ),.agg [cC bb.bX,cC bb.bZ]] (res r).1 (res r).2
def P(a:List Nat)(b:Fr)(J:Bool×Int->Prop):Prop:=ee env 8 W B a b (ec env 8 Tryz.f8 4 res J)
def cd(ab:Int)(ai:List bC)(ax:List br)(dv:bT×Int)(J:Bool×Int->Prop):Prop:=P [1,1,1,1,1,0,0] [(0,aq ab),(1,.sl (ai.map c6)),(2,.sl (ax.map cZ)),(12,.box [aq dv.1.bl,.sl (dv.1.Rows.map aK)]),(13,aq dv.2)] J
def bm(ab:Int)(dw:bT×Int)(J:Bool×Int->Prop):Prop:=P [1,1,1,1,1,1,1,0,0] [(0,aq ab),(13,aq dw.2),(14,.box [aq dw.1.bl,.sl (dw.1.Rows.map aK)])] J
def aJ(dw:bT×Int)(z0:ay)(ar aI:Int)(J:Bool×Int->Prop):Prop:=P [1,1,1,1,1,1,1,1,1,0,1,0] [(14,.box [aq dw.1.bl,.sl (dw.1.Rows.map aK)]),(15,.own (z0.map bc)),(69,aq ar),(70,aq aI)] J
def fp(ab:Int)(ai:List bC)(ax:List br)(dv:bT×Int)(J:Bool×Int->Prop)(h:(if dv.2=0 then ∃dw:bT×Int,Pr.C dv.1 ai ax dw/\bm ab dw J else J (false,dv.2))):cd ab ai ax dv J:=b2<|g5 2 h g4 g3 (λh=>a7 7 h) λh=>UB 7 h bD (k:=λdw _ h=>a1 7 h) (k2:=λdw _ h=>a1 7 h)
def cU(ab:Int)(dw:bT×Int)(J:Bool×Int->Prop)(h:(if dw.2=0 then(0<=ab/\ab*8<=281474976710656)/\aJ dw (a6 ab.toNat (0:Int)) ((a6 ab.toNat (0:Int)).length:Int) 0 J else J (false,dw.2))):bm ab dw J:=b2<|g5 2 h g4 g3 (λh=>a7 7 h) λh=>h.elim λc7 h=>fe 5 (C4 (t:=74) (x:=(.tmp 66)) (y:=(.tmp 66)) (q:=.i64) (i:=ab) (et:=3) (z:=aq 0) (e:=bc) (a:=(0:Int)) (k:=8) (by kernel_rfl) (by kernel_rfl) (by kernel_rfl) (by kernel_rfl) (by kernel_rfl) (by kernel_rfl) (by kernel_rfl) (by kernel_rfl) (by kernel_rfl) (by kernel_rfl) c7.1 c7.2)<|c1 4 bc (a6 ab.toNat (0:Int))<|a1 2 h
def bE(dw:bT×Int)(z0:ay)(ar aI:Int)(J:Bool×Int->Prop)(h:(if aI<ar then ∃cX,a_ z0 aI=some cX/\aJ dw (b7 z0 aI aI) ar (aV (aI+1)) J else ∃nv:Bool,xA.C dw.1 z0 nv/\J (nv,0))):aJ dw z0 ar aI J:=b2<|bn 2 h bJ bI (λh=>cG 11 bc h λcX dL h=>iI 0 bc aI dL<|a1 5 h) λh=>b4 6 h bD (hr:=by exact(sg (pb (qb (s:=15) (ps:=[]) (l:=z0) (e:=bc) (e':=bc) (λ_=>rfl) (by kernel_rfl)) qe))) λnv _ h=>a7 3 h
def bj(ab:Int)(ai:List bC)(ax:List br)(bb:br)(J:Bool×Int->Prop)(h:∃r1:Int,mN.C ab ai ax r1/\(if r1=0 then 0<=ab/\(if(ft .u32 (eZ .u32 bb.bX bb.bZ) ab)=0 then 0<=ab/\∃dv:bT×Int,mO.C ab ([(eZ .u32 bb.bX bb.bZ),(eZ .u32 bb.bX (fK .u32 (IntKind.wrap .u32 ((jo .u32 1 ab)-1)) bb.bZ))]) dv/\cd ab ai ax dv J else J (false,1))else J (false,r1))):∃r,J r/\C ab ai ax bb r:=cw Tryz.f8 B W res<|b4 9 h bD λr1 _ h=>g5 4 h g4 g3 (λh=>a7 7 h) λh=>h.elim λaa h=>ma 10 (p_ (t:=35) (q:=.u32) (q':=.i64) (i1:=(eZ .u32 bb.bX bb.bZ)) aa)<|g5 0 h g4 g3 (λh=>a7 6 h) λh=>h.elim λaB h=>ma 5 (Ad (t:=35) (q:=.u32) (q':=.i64) (i1:=1) aB)<|UB 18 h bD (hr:=by exact(sg (pb (qb (s:=49) (ps:=[]) (l:=[(eZ .u32 bb.bX bb.bZ),(eZ .u32 bb.bX (fK .u32 (IntKind.wrap .u32 ((jo .u32 1 ab)-1)) bb.bZ))]) (e:=bM) (e':=bM) (λ_=>rfl) (by kernel_rfl)) qe))) (k:=λdv _ h=>a1 7 h) (k2:=λdv _ h=>a1 7 h)
end sk
namespace zs
def B:=cv Tryz.f103
def W:=[0,1,2,3,4,6,7,9,17,22,23,24,25,37,41,42,43,44,61]
def res(r:Bool):D×List D:=(dm r,[])
def C(ab:ew)(r:Bool):Prop:=bR env 103 [.agg [aq ab.Rows,.sl (ab.eh.map aK)]] (res r).1 (res r).2
def P(a:List Nat)(b:Fr)(J:Bool->Prop):Prop:=ee env 103 W B a b (ec env 103 Tryz.f103 1 res J)
def aJ(ab:ew)(z0:List Bool)(ar aI:Int)(J:Bool->Prop):Prop:=P [1,1,1,1,0,1,0] [(0,.agg [aq ab.Rows,.sl (ab.eh.map aK)]),(1,.box [aq ab.Rows,.sl (ab.eh.map aK)]),(3,.own (z0.map wX)),(4,aq ar),(22,.sl (ab.eh.map aK)),(23,aq (ab.eh.length:Int)),(24,aq aI)] J
def bm(ab:ew)(z0:List Bool)(a4:Int)(bA:ay)(ar aI z3:Int)(J:Bool->Prop):Prop:=P [1,1,1,1,0,1,0,0,1,1,0,0,1,1,1,1,1,0] [(0,.agg [aq ab.Rows,.sl (ab.eh.map aK)]),(1,.box [aq ab.Rows,.sl (ab.eh.map aK)]),(3,.own (z0.map wX)),(4,aq a4),(6,.sl (bA.map bc)),(7,aq ar),(22,.sl (ab.eh.map aK)),(23,aq (ab.eh.length:Int)),(24,aq aI),(41,.sl (bA.map bc)),(42,aq (bA.length:Int)),(43,aq z3)] J
def bE(ab:ew)(z0:List Bool)(ar aI:Int)(J:Bool->Prop)(h:(if aI<(ab.eh.length:Int)then ∃bA,a_ ab.eh aI=some bA/\(if(bA.length:Int)<2 then J false else ∃a4,a_ bA 0=some a4/\(if a4<=ar then J false else bm ab z0 a4 bA (-1) aI 0 J))else J true)):aJ ab z0 ar aI J:=b2<|bn 2 h bJ bI (λh=>eA 4 aK h λbA aB h=>c1 5 bc bA<|bn 0 h bJ bI (λh=>a7 12 h) λh=>eA 2 bc h λa4 bO h=>bn 2 h bJ bI (λh=>a7 6 h) λh=>xo 6 bc bO<|c1 8 bc bA<|a1 2 h) λh=>a7 6 h
def cU(ab:ew)(z0:List Bool)(a4:Int)(bA:ay)(ar aI z3:Int)(J:Bool->Prop)(h:(if z3<(bA.length:Int)then ∃eQ,a_ bA z3=some eQ/\(if eQ<=ar then J false else(if ab.Rows<=eQ then J false else ∃hh,a_ z0 eQ=some hh/\(if hh=true then J false else bm ab (b7 z0 eQ true) a4 bA eQ aI (aV (z3+1)) J)))else aJ ab z0 a4 (aV (aI+1)) J)):bm ab z0 a4 bA ar aI z3 J:=b2<|bn 2 h bJ bI (λh=>eA 4 bc h λeQ gp h=>bn 6 h bJ bI (λh=>a7 17 h) λh=>bn 4 h bJ bI (λh=>a7 12 h) λh=>cG 4 wX h λhh jw h=>akQ 0 jw h (λh=>a7 6 h) λh=>ic 7 wX jw<|iI 0 wX true jw<|a1 9 h) λh=>a1 7 h
def bj(ab:ew)(J:Bool->Prop)(h:(if ab.Rows<0 then J false else(if 1000<ab.Rows then J false else(0<=ab.Rows/\ab.Rows*1<=281474976710656)/\aJ ab (a6 ab.Rows.toNat false) (-1) 0 J))):∃r,J r/\C ab r:=cw Tryz.f103 B W res<|bn 7 h bJ bI (λh=>a7 10 h) λh=>bn 3 h bJ bI (λh=>a7 6 h) λh=>h.elim λI h=>fe 7 (C4 (t:=100) (x:=(.tmp 19)) (y:=(.tmp 19)) (q:=.i64) (i:=ab.Rows) (et:=4) (z:=dm false) (e:=wX) (a:=false) (k:=1) (by kernel_rfl) (by kernel_rfl) (by kernel_rfl) (by kernel_rfl) (by kernel_rfl) (by kernel_rfl) (by kernel_rfl) (by kernel_rfl) (by kernel_rfl) (by kernel_rfl) I.1 I.2)<|c1 8 aK ab.eh<|a1 2 h
end zs
end Go.aS
namespace Go.aS
def ld(rows:Int):Int->List Bool->ay->Option (List Bool)
 |_,seen,[]=>some seen
 |before,seen,i::r=>if i<=before∨rows<=i∨a_ seen i=some true then none else ld rows i (b7 seen i true) r
def oo(rows:Int):Int->List Bool->aL->Bool
 |_,_,[]=>true
 |first,seen,c::cs=>match c with
  |[]=>false
  |[_]=>false
  |a::b::r=>if a<=first then false else match ld rows (-1) seen (a::b::r)with
   |none=>false
   |some als=>oo rows a als cs
def lh(p:ew):Bool:=if p.Rows<0 then false else if 1000<p.Rows then false else oo p.Rows (-1) (a6 p.Rows.toNat false) p.eh
def sK(p:ew):Prop:=p.eh.length<fM/\∀c∈p.eh,c.length<fM
def Kc{rows:Int}:∀{r:ay}{b:Int}{s bk:List Bool},ld rows b s r=some bk->bk.length=s.length
 |[],_,_,_,h=>by simp[ld]at h;rw[h]
 |i::r,b,s,bk,h=>by
  simp only[ld]at h
  split at h
  .cases h
  .have:=Kc h;rw[this,oi]
namespace zs
def inner{ab:ew}{a4 X_:Int}{bA:ay}{J:Bool->Prop}(ag:bA.length<fM):∀(r:ay)(k:Nat)(seen:List Bool)(before:Int),bA.drop k=r->(seen.length:Int)=ab.Rows->-1<=before ->
  (match ld ab.Rows before seen r with
   |none=>J false
   |some s=>aJ ab s a4 (aV (X_+1)) J)->bm ab seen a4 bA before X_ k J
 |[],k,seen,before,ah,ae,u2,h=>by
  apply cU;have:=gd ah;rw[if_neg (by omega)];exact h
 |i::r,k,seen,before,ah,ae,u2,h=>by
  apply cU;have aj:=gl ah;rw[if_pos (by omega)];refine⟨i,jW ah,?_⟩;simp only[ld]at h
  split
  .rename_i I;rw[if_pos (.inl I)]at h;exact h
  .rename_i I
   split
   .rename_i aa;rw[if_pos (.inr (.inl aa))]at h;exact h
   .rename_i aa;obtain⟨b,ak⟩:=sF (l:=seen) (i:=i) (by omega) (by omega);refine⟨b,ak,?_⟩
    split
    .rename_i aB;subst aB;rw[if_pos (.inr (.inr ak))]at h;exact h
    .rename_i aB;have:¬(i<=before∨ab.Rows<=i∨a_ seen i=some true):=by
      rintro(h|h|h)
      .exact I h
      .exact aa h
      .rw [ak]at h;exact aB (bo h)
     rw[if_neg this]at h;rw[dx (by unfold fM at ag;omega)];exact inner ag r (k+1) _ i (e4 ah) (by rw[oi];exact ae) (by omega) h
def outer{ab:ew}{J:Bool->Prop}(ag:sK ab):∀(cs:aL)(k:Nat)(seen:List Bool)(first:Int),ab.eh.drop k=cs->(seen.length:Int)=ab.Rows ->
  J (oo ab.Rows first seen cs)->aJ ab seen first k J
 |[],k,seen,first,ah,ae,h=>by
  apply bE;have:=gd ah;rw[if_neg (by omega)];exact h
 |c::cs,k,seen,first,ah,ae,h=>by
  apply bE;have aj:=gl ah;have ad:c∈ab.eh:=aM (eO ah);rw[if_pos (by omega)];refine⟨c,jW ah,?_⟩
  match c,ad,h,ah with
  |[],_,h,ah=>simp only[List.length_nil];exact h
  |[_],_,h,ah=>simp only[fB];exact h
  |a::b::r,ad,h,ah=>
   rw[if_neg (by simp;omega)];refine⟨a,by simp[a_],?_⟩;simp only[oo]at h
   split
   .rename_i I;rw[if_pos I]at h;exact h
   .rename_i I;rw[if_neg I]at h;refine inner (ag.2 _ ad) (a::b::r) 0 seen (-1) rfl ae (by omega) ?_;cases an:ld ab.Rows (-1) seen (a::b::r)with
    |none=>rw[an]at h;exact h
    |some s=>
     rw[an]at h;simp only at h⊢;rw[dx (by have:=ag.1;unfold fM at this;omega)];exact outer ag cs (k+1) s a (e4 ah) (by rw[Kc an];exact ae) h
def bp{ab:ew}(ag:sK ab):C ab (lh ab):=by
 obtain⟨r,I,aa⟩:=bj ab (λr=>r=lh ab) (by
  unfold lh
  split
  .rfl
  .split
   .rfl
   .refine ⟨by omega,?_⟩
    exact outer ag ab.eh 0 _ (-1) rfl (by simp;omega) rfl)
 rw[<-I];exact aa
end zs
def free:List Bool->Nat
 |[]=>0
 |b::l=>(if b then 0 else 1)+free l
def Ys(n:Nat):free (a6 n false)=n:=by
 induction n with
 |zero=>rfl
 |succ n aN=>simp only[fR,free,aN];simp;omega
def Ti:∀{l:List Bool}{n:Nat},l[n]?=some false->free (l.set n true)+1=free l
 |[],n,h=>by simp at h
 |b::l,0,h=>by simp at h;subst h;simp[free];omega
 |b::l,n+1,h=>by
  simp only[b3]at h;have:=Ti h;simp only[List.set_cons_succ,free];omega
def aa0{l:List Bool}{i:Int}(h:a_ l i=some false):free (b7 l i true)+1=free l:=Ti (hd h).2
def Q8{rows:Int}:∀{r:ay}{i b:Int}{s bk:List Bool},-1<=b->(s.length:Int)=rows->ld rows b s (i::r)=some bk->b<i/\i<rows/\a_ s i=some false/\ld rows i (b7 s i true) r=some bk:=by
 intro r i b s bk ag ae h;simp only[ld]at h
 split at h
 .cases h
 .rename_i I;simp only[not_or]at I;obtain⟨x,U⟩:=sF (l:=s) (i:=i) (by omega) (by omega);refine⟨by omega,by omega,?_,h⟩;rw[U]at I⊢;cases x with
  |true=>exact absurd rfl I.2.2
  |false=>rfl
def QF{rows:Int}:∀{r:ay}{b:Int}{s bk:List Bool},-1<=b->(s.length:Int)=rows->ld rows b s r=some bk->free bk+r.length=free s
 |[],b,s,bk,ag,ae,h=>by simp[ld]at h;simp[h]
 |i::r,b,s,bk,ag,ae,h=>by
  obtain⟨I,aa,aB,aW⟩:=Q8 ag ae h;have:=QF (by omega) (by rw[oi];exact ae) aW;have bO:=aa0 aB;simp only[bL];omega
def ru:aL->Int
 |[]=>0
 |c::cs=>((c.length:Int)-1)+ru cs
def Qr{rows first:Int}{s:List Bool}{c:ay}{cs:aL}(h:oo rows first s (c::cs)=true):∃a b r bk,c=a::b::r/\first<a/\ld rows (-1) s c=some bk/\oo rows a bk cs=true:=by
 match c,h with
 |[],h=>simp[oo]at h
 |[_],h=>simp[oo]at h
 |a::b::r,h=>
  simp only[oo]at h
  split at h
  .cases h
  .rename_i I;cases an:ld rows (-1) s (a::b::r)with
   |none=>rw[an]at h;cases h
   |some bk=>rw[an]at h;exact⟨a,b,r,bk,rfl,by omega,rfl,h⟩
def Rp{rows:Int}:∀{cs:aL}{first:Int}{s:List Bool},(s.length:Int)=rows->oo rows first s cs=true->0<=ru cs/\ru cs<=free s
 |[],_,_,_,_=>by simp[ru]
 |c::cs,first,s,ae,h=>by
  obtain⟨a,b,r,bk,ad,I,aa,aB⟩:=Qr h;have aW:=QF (by omega) ae aa;have bO:=Rp (by rw[Kc aa];exact ae) aB;subst ad;simp only[ru,bL]at aW⊢;omega
def TG{p:ew}(h:lh p=true):0<=p.Rows/\p.Rows<=1000/\oo p.Rows (-1) (a6 p.Rows.toNat false) p.eh=true:=by
 unfold lh at h
 split at h
 .cases h
 .split at h
  .cases h
  .exact ⟨by omega,by omega,h⟩
def v8(a:Int):ay->ay->ay
 |l,[]=>l
 |l,i::r=>v8 a (b7 l i a) r
def tU{a:Int}:∀{l r:ay},(v8 a l r).length=l.length
 |_,[]=>rfl
 |l,i::r=>by simp only[v8];rw[tU,oi]
def wH(s:List Bool)(r:ay):List Bool:=r.foldl (λs i=>b7 s i true) s
def KJ:∀{r:ay}{s:List Bool},(wH s r).length=s.length
 |[],_=>rfl
 |i::r,s=>by
  show(wH (b7 s i true) r).length=_;rw[KJ,oi]
def KI:∀{r:ay}{s:List Bool}{j:Int},(∀i∈r,0<=i/\i<s.length)->0<=j->j<s.length->a_ (wH s r) j=if j∈r then some true else a_ s j
 |[],_,_,_,_,_=>by simp[wH]
 |i::r,s,j,h,aH,tg=>by
  show a_ (wH (b7 s i true) r) j=_;have hi:=h i (by simp);rw[KI (λk aj=>by rw[oi];exact h k (by simp[aj])) aH (by rw[oi];exact tg)];by_cases I:j∈r
  .simp [I]
  .rw [if_neg I,Gi hi.1 aH];by_cases aa:i=j
   .subst aa;simp[hi.2]
   .rw [if_neg aa,if_neg];simp only[aQ,not_or];exact⟨λh=>aa h.symm,I⟩
def F4{rows:Int}:∀{r:ay}{b:Int}{s bk:List Bool},-1<=b->(s.length:Int)=rows->(ld rows b s r=some bk↔(b::r).Pairwise (·<·)/\(∀i∈r,i<rows/\a_ s i=some false)/\bk=wH s r)
 |[],b,s,bk,ag,ae=>by simp[ld,wH,eq_comm]
 |i::r,b,s,bk,ag,ae=>by
  constructor
  .intro h;obtain⟨I,aa,aB,aW⟩:=Q8 ag ae h;obtain⟨b9,k2,gY⟩:=(F4 (by omega) (by rw[oi];exact ae)).1 aW;have nn:=aA.1 b9;refine⟨aA.2 ⟨λj aH=>?_,b9⟩,λj aH=>?_,gY⟩
   .rcases aQ.1 aH with rfl|aH
    .exact I
    .have:=nn.1 j aH;omega
   .rcases aQ.1 aH with rfl|aH
    .exact ⟨aa,aB⟩
    .have bO:=nn.1 j aH;have c7:=k2 j aH;rw[Gi (by omega) (by omega),if_neg (by omega)]at c7;exact c7
  .rintro ⟨I,aa,aB⟩;have b9:=aA.1 I;have k2:=aA.1 b9.2;have g8:=b9.1 i (by simp);have hi:=aa i (by simp);simp only[ld];rw[if_neg (by
    rintro(h|h|h)
    .omega
    .omega
    .rw [hi.2]at h;cases h)]
   refine(F4 (by omega) (by rw[oi];exact ae)).2 ⟨b9.2,λj aH=>?_,aB⟩;have bO:=k2.1 j aH;rw[Gi (by omega) (by omega),if_neg (by omega)];exact aa j (by simp[aH])
structure Az(rows:Int)(cs:aL):Prop where
 two:∀c∈cs,2<=c.length
 inc:∀c∈cs,c.Pairwise (·<·)
 l9:∀c∈cs,∀i∈c,0<=i/\i<rows
 NI:cs.Pairwise λc d=>c.headD 0<d.headD 0
 HL:cs.Pairwise λc d=>∀i∈c,i ∉ d
def FQ{rows:Int}:∀{cs:aL}{first:Int}{s:List Bool},-1<=first->(s.length:Int)=rows->(oo rows first s cs=true↔Az rows cs/\(∀c∈cs,first<c.headD 0)/\∀c∈cs,∀i∈c,a_ s i=some false)
 |[],first,s,hf,ae=>by
  simp only[oo,true_iff];exact⟨⟨by simp,by simp,by simp,by simp,by simp⟩,by simp,by simp⟩
 |c::cs,first,s,hf,ae=>by
  constructor
  .intro h;obtain⟨a,b,t,bk,ad,I,aa,aB⟩:=Qr h;obtain⟨h1,hD,pS⟩:=(F4 (by omega) ae).1 aa;have ch:∀i∈c,0<=i/\i<rows:=λi hi=>by
    have:=(aA.1 h1).1 i hi;exact⟨by omega,(hD i hi).1⟩
   have ds:(bk.length:Int)=rows:=by rw[pS,KJ];exact ae
   have aC:0<=a:=(ch a (by rw[ad];simp)).1;obtain⟨sa,I4,sb⟩:=(FQ (by omega) ds).1 aB;have key:∀d∈cs,∀i∈d,i ∉ c/\a_ s i=some false:=λd ah i hi=>by
    have bO:=sb d ah i hi;have c7:=sa.l9 d ah i hi;rw[pS,KI (λk aj=>by have:=ch k aj;omega) c7.1 (by omega)]at bO;by_cases xe:i∈c
    .rw [if_pos xe]at bO;cases bO
    .rw [if_neg xe]at bO;exact⟨xe,bO⟩
   refine⟨⟨?_,?_,?_,?_,?_⟩,?_,?_⟩
   .intro d ah;rcases aQ.1 ah with rfl|ah
    .rw [ad];simp
    .exact sa.two d ah
   .intro d ah;rcases aQ.1 ah with rfl|ah
    .exact (aA.1 h1).2
    .exact sa.inc d ah
   .intro d ah;rcases aQ.1 ah with rfl|ah
    .exact ch
    .exact sa.l9 d ah
   .refine aA.2 ⟨λd ah=>?_,sa.NI⟩;have:=I4 d ah;rw[ad];exact this
   .exact aA.2 ⟨λd ah i hi pE=>(key d ah i pE).1 hi,sa.HL⟩
   .intro d ah;rcases aQ.1 ah with rfl|ah
    .rw [ad];exact I
    .have:=I4 d ah;omega
   .intro d ah i hi;rcases aQ.1 ah with rfl|ah
    .exact (hD i hi).2
    .exact (key d ah i hi).2
  .rintro ⟨⟨dk,ea,lD,BE,BF⟩,b_,cM⟩
   match c,dk c (by simp),dk,ea,lD,BE,BF,b_,cM with
   |a::b::t,_,dk,ea,lD,BE,BF,b_,cM=>
    have an:ld rows (-1) s (a::b::t)=some (wH s (a::b::t)):=(F4 (by omega) ae).2 ⟨aA.2 ⟨λi hi=>by have:=(lD _ (by simp) i hi).1;omega,ea _ (by simp)⟩,λi hi=>⟨(lD _ (by simp) i hi).2,cM _ (by simp) i hi⟩,rfl⟩;have aC:=lD (a::b::t) (by simp) a (by simp);simp only[oo];rw[if_neg (by have:=b_ (a::b::t) (by simp);simp at this;omega),an];refine(FQ (by omega) (by rw[KJ];exact ae)).2 ⟨⟨λd ah=>dk d (by simp[ah]),λd ah=>ea d (by simp[ah]),λd ah=>lD d (by simp[ah]),(aA.1 BE).2,(aA.1 BF).2⟩,λd ah=>?_,λd ah i hi=>?_⟩
    .exact (aA.1 BE).1 d ah
    .have c7:=lD d (by simp[ah]) i hi;rw[KI (λk aj=>by have:=lD (a::b::t) (by simp) k aj;omega) c7.1 (by omega),if_neg]
     .exact cM d (by simp[ah]) i hi
     .exact λxe=>(aA.1 BF).1 d ah i xe hi
def x0{p:ew}:lh p=true↔0<=p.Rows/\p.Rows<=1000/\Az p.Rows p.eh:=by
 constructor
 .intro h;obtain⟨I,aa,aB⟩:=TG h;exact⟨I,aa,((FQ (by omega) (by simp;omega)).1 aB).1⟩
 .rintro ⟨I,aa,aB⟩;unfold lh;rw[if_neg (by omega),if_neg (by omega)];refine(FQ (by omega) (by simp;omega)).2 ⟨aB,λc ad=>?_,λc ad i hi=>?_⟩
  .have aW:=aB.two c ad
   match c,aW,ad with
   |a::t,_,ad=>have:=aB.l9 _ ad a (by simp);simp;omega
  .have:=aB.l9 c ad i hi;simp only[a_,if_pos this.1,List.getElem?_replicate];rw[if_pos (by omega)]
def oC(p:ew)(i j:Int):Prop:=i=j∨∃c∈p.eh,i∈c/\j∈c
def JU{a:Int}:∀{r:ay}{l:ay}{j:Int},(∀i∈r,0<=i/\i<l.length)->0<=j->j<l.length->a_ (v8 a l r) j=if j∈r then some a else a_ l j
 |[],_,_,_,_,_=>by simp[v8]
 |i::r,l,j,h,aH,jy=>by
  have hi:=h i (by simp);simp only[v8];rw[JU (λk aj=>by rw[oi];exact h k (by simp[aj])) aH (by rw[oi];exact jy)];by_cases I:j∈r
  .simp [I]
  .rw [if_neg I,Gi hi.1 aH];by_cases aa:i=j
   .subst aa;simp[hi.2]
   .rw [if_neg aa,if_neg];simp only[aQ,not_or];exact⟨λh=>aa h.symm,I⟩
def uk:List (Int×ay)->ay->ay
 |[],l=>l
 |(a,c)::r,l=>uk r (v8 a l c)
def RF:∀{r:List (Int×ay)}{l:ay},(uk r l).length=l.length
 |[],_=>rfl
 |(a,c)::r,l=>by simp only[uk];rw[RF,tU]
def Km:∀{r:List (Int×ay)}{l:ay}{j:Int},(∀x∈r,∀i∈x.2,0<=i/\i<l.length)->0<=j->j<l.length->(∀x∈r,j ∉ x.2)->a_ (uk r l) j=a_ l j
 |[],_,_,_,_,_,_=>rfl
 |(a,c)::r,l,j,h,aH,jy,ao=>by
  simp only[uk];rw[Km (λx U=>by rw[tU];exact h x (by simp[U])) aH (by rw[tU];exact jy) (λx U=>ao x (by simp[U])),JU (h (a,c) (by simp)) aH jy,if_neg (ao (a,c) (by simp))]
def Sw:∀{r:List (Int×ay)}{l:ay}{j:Int}{x:Int×ay},(∀x∈r,∀i∈x.2,0<=i/\i<l.length)->0<=j->j<l.length->r.Pairwise (λx y=>∀i∈x.2,i ∉ y.2)->x∈r->j∈x.2->a_ (uk r l) j=some x.1
 |[],_,_,_,_,_,_,_,U,_=>by cases U
 |(a,c)::r,l,j,x,h,aH,jy,af,U,NQ=>by
  simp only[uk];have fy:=aA.1 af;rcases aQ.1 U with rfl|U
  .rw [Km (λx U=>by rw[tU];exact h x (by simp[U])) aH (by rw[tU];exact jy) (λy aw=>fy.1 y aw j NQ),JU (h (a,c) (by simp)) aH jy,if_pos NQ]
  .exact Sw (λx U=>by rw[tU];exact h x (by simp[U])) aH (by rw[tU];exact jy) fy.2 U NQ
def aa8{c:ay}(h:2<=c.length):c.headD 0∈c:=by
 match c,h with
 |a::t,_=>simp
end Go.aS
namespace Go.aS
open Go.Proofs D
set_option maxRecDepth 100000
set_option maxHeartbeats 4000000
namespace Fl
def B:=cv Tryz.f82
def W:=[0,1,2,3,4,5,6,8,13,14,15,24,25,26,27,31,32,33,34]
def res(r:ay):D×List D:=(.own (r.map bc),[])
def C(ab:ew)(r:ay):Prop:=bR env 82 [.agg [aq ab.Rows,.sl (ab.eh.map aK)]] (res r).1 (res r).2
def P(a:List Nat)(b:Fr)(J:ay->Prop):Prop:=ee env 82 W B a b (ec env 82 Tryz.f82 1 res J)
def aJ(ab:ew)(z0:ay)(ar:Int)(J:ay->Prop):Prop:=P [1,1,0,1,0] [(0,.agg [aq ab.Rows,.sl (ab.eh.map aK)]),(1,.box [aq ab.Rows,.sl (ab.eh.map aK)]),(3,.own (z0.map bc)),(13,aq ((a6 ab.Rows.toNat (0:Int)).length:Int)),(14,aq ar)] J
def bm(ab:ew)(z0:ay)(ar:Int)(J:ay->Prop):Prop:=P [1,1,1,0,1,0] [(0,.agg [aq ab.Rows,.sl (ab.eh.map aK)]),(1,.box [aq ab.Rows,.sl (ab.eh.map aK)]),(3,.own (z0.map bc)),(24,.sl (ab.eh.map aK)),(25,aq (ab.eh.length:Int)),(26,aq ar)] J
def cd(ab:ew)(z0:ay)(ar:Int)(a4:ay)(aI z3:Int)(J:ay->Prop):Prop:=P [1,1,1,0,1,0,0,1,1,0,0,1,1,0] [(0,.agg [aq ab.Rows,.sl (ab.eh.map aK)]),(1,.box [aq ab.Rows,.sl (ab.eh.map aK)]),(3,.own (z0.map bc)),(5,aq ar),(6,.sl (a4.map bc)),(24,.sl (ab.eh.map aK)),(25,aq (ab.eh.length:Int)),(26,aq aI),(31,.sl (a4.map bc)),(32,aq (a4.length:Int)),(33,aq z3)] J
def bE(ab:ew)(z0:ay)(ar:Int)(J:ay->Prop)(h:(if ar<((a6 ab.Rows.toNat (0:Int)).length:Int)then ∃bA,a_ z0 ar=some bA/\aJ ab (b7 z0 ar (aV ((-1)-ar))) (aV (ar+1)) J else bm ab z0 0 J)):aJ ab z0 ar J:=b2<|bn 2 h bJ bI (λh=>cG 12 bc h λbA aB h=>iI 0 bc (aV ((-1)-ar)) aB<|a1 5 h) λh=>c1 6 aK ab.eh<|a1 2 h
def cU(ab:ew)(z0:ay)(ar:Int)(J:ay->Prop)(h:(if ar<(ab.eh.length:Int)then ∃a4,a_ ab.eh ar=some a4/\cd ab z0 ar a4 ar 0 J else J z0)):bm ab z0 ar J:=b2<|bn 2 h bJ bI (λh=>eA 5 aK h λa4 bO h=>c1 6 bc a4<|a1 2 h) λh=>a7 7 h
def fp(ab:ew)(z0:ay)(ar:Int)(a4:ay)(aI z3:Int)(J:ay->Prop)(h:(if z3<(a4.length:Int)then ∃eQ,a_ a4 z3=some eQ/\∃hh,a_ z0 eQ=some hh/\cd ab (b7 z0 eQ ar) ar a4 aI (aV (z3+1)) J else bm ab z0 (aV (aI+1)) J)):cd ab z0 ar a4 aI z3 J:=b2<|bn 2 h bJ bI (λh=>eA 4 bc h λeQ gp h=>cG 7 bc h λhh jw h=>iI 0 bc ar jw<|a1 5 h) λh=>a1 7 h
def bj(ab:ew)(J:ay->Prop)(h:(0<=ab.Rows/\ab.Rows*8<=281474976710656)/\aJ ab (a6 ab.Rows.toNat (0:Int)) 0 J):∃r,J r/\C ab r:=cw Tryz.f82 B W res<|h.elim λI h=>fe 7 (C4 (t:=74) (x:=(.tmp 10)) (y:=(.tmp 10)) (q:=.i64) (i:=ab.Rows) (et:=3) (z:=aq 0) (e:=bc) (a:=(0:Int)) (k:=8) (by kernel_rfl) (by kernel_rfl) (by kernel_rfl) (by kernel_rfl) (by kernel_rfl) (by kernel_rfl) (by kernel_rfl) (by kernel_rfl) (by kernel_rfl) (by kernel_rfl) I.1 I.2)<|c1 4 bc (a6 ab.Rows.toNat (0:Int))<|a1 2 h
end Fl
namespace B1
def B:=cv Tryz.f81
def W:=[0,1,2,3,4,12,17]
def res(r:Int):D×List D:=(aq r,[])
def C(ab ai:ew)(r:Int):Prop:=bR env 81 [.agg [aq ab.Rows,.sl (ab.eh.map aK)],.agg [aq ai.Rows,.sl (ai.eh.map aK)]] (res r).1 (res r).2
def bj(ab ai:ew)(J:Int->Prop)(h:∃r1:Bool,zs.C ab r1/\(if r1=true then ∃r2:Bool,zs.C ai r2/\(if r2=true then(if ab.Rows=ai.Rows then J 0 else J 6)else J 1)else J 1)):∃r,J r/\C ab ai r:=cw Tryz.f81 B W res<|iy 7 h bD (λ_ h=>iy 3 h bD (λ_ h=>g5 10 h g4 g3 (λh=>a7 5 h) λh=>a7 6 h) λ_ h=>a7 7 h) λ_ h=>a7 11 h
end B1
end Go.aS
namespace Go.aS
def qW(n:Nat):ay:=(eW n).map λ(k:Nat)=>-1-(k:Int)
def acx{n k:Nat}(h:k<n):(qW n)[k]?=some (-1-(k:Int)):=by simp[qW,h]
def x2{n:Nat}:(qW n).length=n:=by simp[qW]
def idx:Nat->aL->List (Int×ay)
 |_,[]=>[]
 |k,c::cs=>((k:Int),c)::idx (k+1) cs
def we:∀{cs:aL}{k:Nat}{x:Int×ay},x∈idx k cs->∃n:Nat,k<=n/\x.1=(n:Int)/\cs[n-k]?=some x.2
 |[],_,_,h=>by cases h
 |c::cs,k,x,h=>by
  rcases aQ.1 h with rfl|h
  .exact ⟨k,by omega,rfl,by simp⟩
  .obtain ⟨n,I,aa,aB⟩:=we h;refine⟨n,by omega,aa,?_⟩;have:n-k=(n-(k+1))+1:=by omega
   rw[this,b3];exact aB
def L8:∀{cs:aL}{k:Nat}{c:ay},c∈cs->∃n:Nat,((n:Int),c)∈idx k cs
 |[],_,_,h=>by cases h
 |d::cs,k,c,h=>by
  rcases aQ.1 h with rfl|h
  .exact ⟨k,by simp[idx]⟩
  .obtain ⟨n,ao⟩:=L8 (k:=k+1) h;exact⟨n,by simp[idx,ao]⟩
def TU:∀{cs:aL}{k:Nat},(idx k cs).map Prod.snd=cs
 |[],_=>rfl
 |c::cs,k=>by simp[idx,TU]
def mK(p:ew):ay:=uk (idx 0 p.eh) (qW p.Rows.toNat)
def Le{p:ew}:(mK p).length=p.Rows.toNat:=by unfold mK;rw[RF,x2]
namespace Fl
def fill{ab:ew}{J:ay->Prop}(aO:0<=ab.Rows)(I:ab.Rows<=1000)(cq:bm ab (qW ab.Rows.toNat) 0 J):∀(m k:Nat),k+m=ab.Rows.toNat->aJ ab (qW k++a6 m 0) k J
 |0,k,aj=>by
  apply bE;rw[if_neg (by simp;omega)];have:k=ab.Rows.toNat:=by omega
  simpa[this]using cq
 |m+1,k,aj=>by
  apply bE;rw[if_pos (by simp;omega)];have hl:(qW k).length=k:=x2;refine⟨0,?_,?_⟩
  .rw [gP,dR (by omega)];simp[hl]
  .rw [dx (by omega),nF (by omega) (by omega)];have:b7 (qW k++a6 (m+1) 0) (k:Int) (-1-(k:Int))=qW (k+1)++a6 m 0:=by
    unfold b7;rw[du,gj _ _ (by omega),hl,Nat.sub_self,fR,hb];simp[qW,ig]
   rw[this];exact fill aO I cq m (k+1) (by omega)
def inner{ab:ew}{J:ay->Prop}{c:ay}{a:Int}{j:Nat}(ag:c.length<fM)(aH:j+1<fM):∀(r:ay)(k:Nat)(l:ay),c.drop k=r->(∀i∈r,0<=i/\i<l.length) ->
  bm ab (v8 a l r) ((j+1:Nat):Int) J->cd ab l a c j k J
 |[],k,l,ah,ch,h=>by
  apply fp;have:=gd ah;rw[if_neg (by omega),dx aH];exact h
 |i::r,k,l,ah,ch,h=>by
  apply fp;have aj:=gl ah;have hi:=ch i (by simp);rw[if_pos (by omega)];obtain⟨x,U⟩:=sF (l:=l) (i:=i) hi.1 hi.2;refine⟨i,jW ah,x,U,?_⟩;rw[dx (by unfold fM at ag;omega)];exact inner ag aH r (k+1) _ (e4 ah) (λq au=>by rw[oi];exact ch q (by simp[au])) h
def outer{ab:ew}{J:ay->Prop}(ag:sK ab):∀(cs:aL)(k:Nat)(l:ay),ab.eh.drop k=cs->(∀c∈cs,∀i∈c,0<=i/\i<l.length) ->
  J (uk (idx k cs) l)->bm ab l k J
 |[],k,l,ah,ch,h=>by
  apply cU;have:=gd ah;rw[if_neg (by omega)];exact h
 |c::cs,k,l,ah,ch,h=>by
  apply cU;have aj:=gl ah;rw[if_pos (by omega)];have aiC:=eO ah;refine⟨c,jW ah,?_⟩;refine inner (ag.2 _ (aM aiC)) (by have:=ag.1;omega) c 0 l rfl (ch c (by simp)) ?_;exact outer ag cs (k+1) _ (e4 ah) (λd ah i hi=>by rw[tU];exact ch d (by simp[ah]) i hi) h
def bp{ab:ew}(ag:sK ab)(av:lh ab=true):C ab (mK ab):=by
 obtain⟨v1,v2,v3⟩:=x0.1 av;obtain⟨r,I,aa⟩:=bj ab (λr=>r=mK ab) (by
  refine⟨by omega,?_⟩;have:=fill (J:=λr=>r=mK ab) v1 v2 (outer ag ab.eh 0 _ rfl (λc ad i hi=>by have:=v3.l9 c ad i hi;rw[x2];omega) rfl) ab.Rows.toNat 0 (by omega)
  simpa[qW]using this)
 rw[<-I];exact aa
end Fl
def Lf{p:ew}(av:lh p=true){i:Int}(aO:0<=i)(I:i<p.Rows)(ao:∀c∈p.eh,i ∉ c):a_ (mK p) i=some (-1-i):=by
 obtain⟨v1,v2,v3⟩:=x0.1 av;unfold mK;rw[Km (λx U=>?_) aO (by rw[x2];omega) (λx U=>?_)]
 .simp only[a_,if_pos aO];rw[acx (by omega)];congr 1;omega
 .obtain ⟨n,_,_,aB⟩:=we U;intro j aH;have:=v3.l9 _ (aM aB) j aH;rw[x2];omega
 .obtain ⟨n,_,_,aB⟩:=we U;exact ao _ (aM aB)
def C7{p:ew}(av:lh p=true){i:Int}{x:Int×ay}(ad:x∈idx 0 p.eh)(hi:i∈x.2):a_ (mK p) i=some x.1:=by
 obtain⟨v1,v2,v3⟩:=x0.1 av;obtain⟨n,_,_,aB⟩:=we ad;have ch:=v3.l9 _ (aM aB) i hi;unfold mK;refine Sw (λy aw=>?_) ch.1 (by rw[x2];omega) ?_ ad hi
 .obtain ⟨n,_,_,aB⟩:=we aw;intro j aH;have:=v3.l9 _ (aM aB) j aH;rw[x2];omega
 .have:=v3.HL;rw[<-TU (cs:=p.eh) (k:=0)]at this;exact hQ.1 this
def aba{p:ew}(av:lh p=true){i j:Int}(hi:0<=i/\i<p.Rows)(aH:0<=j/\j<p.Rows):a_ (mK p) i=a_ (mK p) j↔oC p i j:=by
 obtain⟨v1,v2,v3⟩:=x0.1 av;have l9:∀{i:Int},(∃c∈p.eh,i∈c)->∃x∈idx 0 p.eh,i∈x.2:=by
  rintro i ⟨c,ad,hi⟩;obtain⟨n,ao⟩:=L8 (k:=0) ad;exact⟨_,ao,hi⟩
 constructor
 .intro h;by_cases xe:∃c∈p.eh,i∈c
  .obtain ⟨x,U,ze⟩:=l9 xe;obtain⟨n,_,aT,c5⟩:=we U;rw[C7 av U ze]at h;by_cases Ek:∃d∈p.eh,j∈d
   .obtain ⟨y,aw,IJ⟩:=l9 Ek;obtain⟨m,_,a5,eo⟩:=we aw;rw[C7 av aw IJ]at h;have aa:=bo h;have:n=m:=by omega
    subst this;rw[c5]at eo;have:=bo eo;exact .inr ⟨x.2,aM c5,ze,by rw[this];exact IJ⟩
   .rw [Lf av aH.1 aH.2 (λc ad NO=>Ek ⟨c,ad,NO⟩)]at h;have aa:=bo h;omega
  .rw [Lf av hi.1 hi.2 (λc ad aiY=>xe ⟨c,ad,aiY⟩)]at h;by_cases Ek:∃d∈p.eh,j∈d
   .obtain ⟨y,aw,IJ⟩:=l9 Ek;obtain⟨m,_,a5,eo⟩:=we aw;rw[C7 av aw IJ]at h;have aa:=bo h;omega
   .rw [Lf av aH.1 aH.2 (λc ad NO=>Ek ⟨c,ad,NO⟩)]at h;exact .inl (by have:=bo h;omega)
 .rintro (rfl|⟨c,ad,I,aa⟩)
  .rfl
  .obtain ⟨n,ao⟩:=L8 (k:=0) ad;rw[C7 av ao I,C7 av ao aa]
def wB(a b:ew):Int:=if lh a then(if lh b then(if a.Rows=b.Rows then 0 else 6)else 1)else 1
def B1.bp{a b:ew}(aC:sK a)(ag:sK b):B1.C a b (wB a b):=by
 obtain⟨r,I,aa⟩:=B1.bj a b (λr=>r=wB a b) (by
  refine⟨_,zs.bp aC,?_⟩;unfold wB
  split
  .refine ⟨_,zs.bp ag,?_⟩
   split
   .split
    .rfl
    .rfl
   .rfl
  .rfl)
 rw[<-I];exact aa
def Kz{rows:Int}:∀{cs:aL}{c:ay},Az rows cs->c∈cs->(c.length:Int)-1<=ru cs/\(cs.length:Int)<=ru cs
 |[],_,_,h=>by cases h
 |d::cs,c,af,h=>by
  have ah:=af.two d (by simp);have fy:Az rows cs:=⟨λc ad=>af.two c (by simp[ad]),λc ad=>af.inc c (by simp[ad]),λc ad=>af.l9 c (by simp[ad]),(aA.1 af.NI).2,(aA.1 af.HL).2⟩
  have ajx:∀{cs:aL},Az rows cs->(cs.length:Int)<=ru cs:=by
   intro cs
   induction cs with
   |nil=>intro _;simp[ru]
   |cons e cs aN=>
    intro au;have he:=au.two e (by simp);have:=aN ⟨λc ad=>au.two c (by simp[ad]),λc ad=>au.inc c (by simp[ad]),λc ad=>au.l9 c (by simp[ad]),(aA.1 au.NI).2,(aA.1 au.HL).2⟩;simp only[ru,bL];omega
  have I:=ajx fy;simp only[ru,bL];refine⟨?_,by omega⟩;rcases aQ.1 h with rfl|h
  .omega
  .have:=(Kz fy h).1;omega
def agm{x:ew}(av:lh x=true):x.eh.length<=1000/\∀c∈x.eh,c.length<=1001:=by
 obtain⟨v1,v2,v3⟩:=x0.1 av;obtain⟨w1,w2,hp⟩:=TG av;have I:=(Rp (by simp;omega) hp).2;rw[Ys]at I;refine⟨?_,λc ad=>?_⟩
 .cases ku:x.eh with
  |nil=>simp
  |cons c cs=>
   have:=(Kz v3 (c:=c) (by rw[ku];simp)).2;rw[ku]at this I;omega
 .have:=(Kz v3 ad).1;omega
def r7(r:ay)(i:Int):Int:=(a_ r i).getD 0
def TV{r:ay}{i a:Int}(h:a_ r i=some a):r7 r i=a:=by simp[r7,h]
def acm{r:ay}{i j:Int}(hi:0<=i/\i<r.length)(aH:0<=j/\j<r.length):r7 r i=r7 r j↔a_ r i=a_ r j:=by
 obtain⟨a,aC⟩:=sF hi.1 hi.2;obtain⟨b,ag⟩:=sF aH.1 aH.2;simp[r7,aC,ag]
def cls{O:Type}[DecidableEq O](l:List O)(a:O):ay:=((eW l.length).filter λk=>decide (l[k]?=some a)).map λ(k:Nat)=>(k:Int)
def e1{O:Type}[DecidableEq O](l:List O):List O:=l.foldl (λacc a=>if a∈acc then acc else acc++[a]) []
def qE{O:Type}[DecidableEq O](l:List O):aL:=((e1 l).map (cls l)).filter λc=>decide (2<=c.length)
section
variable{O:Type}[DecidableEq O]
def ra{l:List O}{a:O}:e1 (l++[a])=if a∈e1 l then e1 l else e1 l++[a]:=by
 unfold e1;rw[List.foldl_append];rfl
def FP{p:List O->Prop}(aO:p [])(I:∀l a,p l->p (l++[a])):∀l,p l:=by
 intro l;have:∀n (l:List O),l.length=n->p l:=by
  intro n
  induction n with
  |zero=>intro l hl;rw[List.length_eq_zero_iff.1 hl];exact aO
  |succ n aN=>
   intro l hl;have cI:l≠[]:=λh=>by rw[h]at hl;simp at hl
   rw[<-List.dropLast_concat_getLast cI];exact I _ _ (aN _ (by simp[hl]))
 exact this _ l rfl
def z_{l:List O}{a:O}:a∈e1 l↔a∈l:=by
 refine FP (p:=λl=>a∈e1 l↔a∈l) (by simp[e1]) (λl b aN=>?_) l;rw[ra]
 split
 .rename_i ag;rw[aN];simp only[cz,cT];constructor
  .exact .inl
  .rintro (h|rfl)
   .exact h
   .have:a∈e1 l:=ag;exact aN.1 this
 .simp only[cz,cT,aN]
def Z3{l:List O}:(e1 l).Nodup:=by
 refine FP (p:=λl=>(e1 l).Nodup) (by simp[e1]) (λl b aN=>?_) l;rw[ra]
 split
 .exact aN
 .rename_i ag;rw[List.nodup_append];exact⟨aN,by simp,λx U y aw=>by simp at aw;subst aw;exact λh=>ag (h ▸ U)⟩
def Gr{l:List O}{a b:O}:cls (l++[b]) a=if b=a then cls l a++[(l.length:Int)]else cls l a:=by
 unfold cls;rw[List.length_append,fB,ig,c_,cx];have I:((eW l.length).filter λk=>decide ((l++[b])[k]?=some a))=(eW l.length).filter λk=>decide (l[k]?=some a):=by
  refine hc λk aj=>?_;rw[List.getElem?_append_left (by simpa using aj)]
 rw[I];by_cases h:b=a
 .simp [h]
 .simp [h]
def adb{l:List O}{a:O}(h:a ∉ l):cls l a=[]:=by
 unfold cls;have:((eW l.length).filter λk=>decide (l[k]?=some a))=[]:=by
  rw[List.filter_eq_nil_iff];intro k _ aj;exact h (aM (by simpa using aj))
 rw[this];rfl
def sG{l:List O}{a:O}{i:Int}:i∈cls l a↔a_ l i=some a:=by
 unfold cls;simp only[hP,hq,List.mem_range,decide_eq_true_eq];constructor
 .rintro ⟨k,⟨_,h⟩,rfl⟩;rw[gP];exact h
 .intro h;obtain⟨aO,I⟩:=hd h;exact⟨i.toNat,⟨(cD.1 I).1,I⟩,by omega⟩
end
def mW(c:ay):Bool:=decide (2<=c.length)
def Sq{c:ay}:decide ((c.length:Int)<2)=!mW c:=by
 unfold mW;by_cases h:(c.length:Int)<2
 .have:¬2<=c.length:=by omega
  simp[h,this]
 .have:2<=c.length:=by omega
  simp[h,this]
def vZ:aL->Nat->Int
 |[],_=>-1
 |c::cs,k=>if mW c then vZ cs (k+1)else(k:Int)
def Qp:∀{l:aL}{k:Nat},(vZ l k = -1/\∀c∈l,mW c=true)∨∃n:Nat,vZ l k=((k+n:Nat):Int)/\n<l.length/\(∀c∈l.take n,mW c=true)/\∃c,l[n]?=some c/\mW c=false
 |[],_=>.inl ⟨rfl,by simp⟩
 |c::l,k=>by
  simp only[vZ];cases ad:mW c with
  |false=>exact .inr ⟨0,by simp,by simp,by simp,c,rfl,ad⟩
  |true=>
   simp only[if_true];rcases Qp (l:=l) (k:=k+1)with⟨I,aa⟩|⟨n,I,aa,aB,aW⟩
   .exact .inl ⟨I,by simpa[ad]using aa⟩
   .refine .inr ⟨n+1,by rw[I];congr 1;omega,by simpa using aa,by simpa[ad]using aB,by simpa using aW⟩
def k0{O:Type}[DecidableEq O]:List O->O->Nat
 |[],_=>0
 |b::l,a=>if b=a then 0 else k0 l a+1
def Uo{O:Type}[DecidableEq O]{a:O}:∀{l:List O},a∈l->k0 l a<l.length
 |[],h=>by cases h
 |b::l,h=>by
  simp only[k0,bL]
  split
  .omega
  .rename_i ag;have:=Uo (l:=l) (a:=a) ((aQ.1 h).resolve_left λh=>ag h.symm);omega
def LN{O:Type}[DecidableEq O]{a:O}:∀{l:List O},a∈l->l[k0 l a]?=some a
 |[],h=>by cases h
 |b::l,h=>by
  simp only[k0]
  split
  .rename_i ag;subst ag;rfl
  .rename_i ag;rw[b3];exact LN ((aQ.1 h).resolve_left λh=>ag h.symm)
def Un{O:Type}[DecidableEq O]{a:O}:∀{l m:List O},a∈l->k0 (l++m) a=k0 l a
 |[],_,h=>by cases h
 |b::l,m,h=>by
  simp only[hR,k0]
  split
  .rfl
  .rename_i ag;rw[Un ((aQ.1 h).resolve_left λh=>ag h.symm)]
def To{O:Type}[DecidableEq O]{a:O}:∀{l:List O},a ∉ l->k0 (l++[a]) a=l.length
 |[],_=>by simp[k0]
 |b::l,h=>by
  simp only[aQ,not_or]at h;simp only[hR,k0,if_neg (Ne.symm h.1),bL];rw[To h.2]
def Tq{O:Type}[DecidableEq O]{a:O}:∀{l:List O}{q:Nat},l.Nodup->l[q]?=some a->k0 l a=q
 |[],q,_,h=>by simp at h
 |b::l,0,_,h=>by
  simp only[List.getElem?_cons_zero,aE]at h;simp[k0,h]
 |b::l,q+1,hl,h=>by
  simp only[b3]at h;have ao:=List.nodup_cons.1 hl;have:b≠a:=λag=>ao.1 (ag ▸ aM h);simp only[k0,if_neg this,Tq ao.2 h]
def akC{O:Type}[DecidableEq O](m:List (O×Int))(ks:List O):Prop:=∀a,mb a m=if a∈ks then some ((k0 ks a:Nat):Int)else none
def SD{gE h2:Type}[DecidableEq gE]{k k':gE}{v:h2}:∀{l:List (gE×h2)},mb k' (tx k v l)=if k=k' then some v else mb k' l
 |[]=>by
  by_cases h:k=k'
  .subst h;simp[tx,mb]
  .simp [tx,mb,h,Ne.symm h]
 |(a,b)::l=>by
  have aN:=SD (k:=k) (k':=k') (v:=v) (l:=l);simp only[tx];by_cases I:k=a
  .subst I;simp only[if_true,mb];by_cases aa:k'=k
   .subst aa;simp
   .simp [aa,Ne.symm aa]
  .simp only[if_neg I,mb];by_cases aa:k'=a
   .subst aa;simp[I]
   .simp only[if_neg aa];exact aN
end Go.aS
namespace Go.aS
open Go.Proofs D
set_option maxRecDepth 100000
set_option maxHeartbeats 4000000
namespace xz
def B:=cv Tryz.f107
def W:=[0,2]
def res(r:Bool):D×List D:=(dm r,[])
def C(ab:ay)(r:Bool):Prop:=bR env 107 [.sl (ab.map bc)] (res r).1 (res r).2
def bj(ab:ay)(J:Bool->Prop)(h:J (decide ((ab.length:Int)<2))):∃r,J r/\C ab r:=cw Tryz.f107 B W res<|c1 5 bc ab<|a7 3 h
end xz
namespace E8
def B:=cv Tryz.f74
def W:=[0,1,4,5,7,8,9,16]
def res(r:Int):D×List D:=(aq r,[])
def C(ab:aL)(r:Int):Prop:=bR env 74 [.sl (ab.map aK),.fn 107 []] (res r).1 (res r).2
def aJ(ab:aL)(z0:Int)(J:Int->Prop):Prop:=ee env 74 W B [1,0,1,0] [(0,.sl (ab.map aK)),(1,.fn 107 []),(7,aq (ab.length:Int)),(8,aq z0)] (ec env 74 Tryz.f74 2 res J)
def bE(ab:aL)(z0:Int)(J:Int->Prop)(h:(if z0<(ab.length:Int)then ∃a2,a_ ab z0=some a2/\∃bx:Bool,xz.C a2 bx/\(if bx=true then J z0 else aJ ab (aV (z0+1)) J)else J (-1))):aJ ab z0 J:=b2<|bn 2 h bJ bI (λh=>eA 11 aK h λa2 aa h=>iy 1 h bD (λ_ h=>a7 6 h) λ_ h=>a1 7 h) λh=>a7 6 h
def bj(ab:aL)(J:Int->Prop)(h:aJ ab 0 J):∃r,J r/\C ab r:=cw Tryz.f74 B W res<|c1 5 aK ab<|a1 2 h
end E8
namespace Fv
def B:=cv Tryz.f106
def W:=[0,1,4,5,6,7,12,19,29]
def res(r:(aL×Bool)):D×List D:=((tJ (r.1.map aK) r.2),[])
def C(aF:aL)(r:(aL×Bool)):Prop:=bR env 106 [.own (aF.map aK),.fn 107 []] (res r).1 (res r).2
def P(a:List Nat)(b:Fr)(J:(aL×Bool)->Prop):Prop:=ee env 106 W B a b (ec env 106 Tryz.f106 2 res J)
def aJ(aF:aL)(r1 z0:Int)(J:(aL×Bool)->Prop):Prop:=P [1,1,1,0,1,0] [(0,.own (aF.map aK)),(1,.fn 107 []),(5,aq r1),(6,aq z0)] J
def bm(aF:aL)(r1 z0:Int)(J:(aL×Bool)->Prop):Prop:=P [1,1,1,0,1,0,0,1,1] [(0,.own (aF.map aK)),(1,.fn 107 []),(5,aq r1),(6,aq z0)] J
def bE(aF:aL)(r1 z0:Int)(J:(aL×Bool)->Prop)(h:(if z0<(aF.length:Int)then ∃bA,a_ aF z0=some bA/\∃dv:Bool,xz.C bA dv/\(if dv=true then bm aF r1 z0 J else ∃cj,a_ aF r1=some cj/\bm (b7 aF r1 bA) (aV (r1+1)) z0 J)else 0<=r1/\(r1.toNat<=aF.length/\aF.length<=aF.length)/\r1.toNat+(aF.length-r1.toNat)<=aF.length/\0<=r1/\r1.toNat+(aF.length-r1.toNat)<=aF.length/\r1.toNat<=aF.length/\(r1.toNat+(aF.length-r1.toNat)<=aF.length/\r1.toNat<=aF.length/\r1.toNat<=r1.toNat)/\J (⟨(ba r1.toNat aF),(!((ba r1.toNat aF).isEmpty))⟩))):aJ aF r1 z0 J:=b2<|c1 4 aK aF<|bn 0 h bJ bI (λh=>cG 6 aK h λbA aB h=>cY 0 aK aB<|iy 5 h bD (λ_ h=>a1 4 h) λ_ h=>cG 7 aK h λcj c7 h=>iI 0 aK bA c7<|a1 6 h) λh=>h.elim λgp h=>h.elim λdL h=>fe 6 (Cs (s:=0) (ps:=[]) (t:=68) (x:=(.tmp 36)) (lo:=(some (.tmp 37))) (hi:=none) (lo':=some (r1).toNat) (hi':=none) (e:=aK) (l:=aF) (et:=74) (k:=1) (by kernel_rfl) (by kernel_rfl) (tY (by kernel_rfl)) (tW (i:=r1) (q:=.i64) (by kernel_rfl) gp) xR (by kernel_rfl) (by kernel_rfl) (λ_=>rfl) (by kernel_rfl) dL.1 dL.2)<|h.elim λjw h=>vn 0 (Lg (t:=68) (x:=(.tmp 38)) (s:=0) (ps:=[]) (off:=r1.toNat) (len:=(aF.length-r1.toNat)) (l:=aF) (e:=aK) (et:=74) (z:=.own []) (k:=1) (by kernel_rfl) (by kernel_rfl) (by kernel_rfl) (by kernel_rfl) (by kernel_rfl) (by kernel_rfl) (by kernel_rfl) (by kernel_rfl) (λ_=>rfl) jw (by kernel_rfl)) <|
 h.elim λpy h=>h.elim λoJ h=>h.elim λlY h=>fe 4 (JP (t:=68) (x:=(.tmp 39)) (hi:=(some (.tmp 40))) (hi':=r1.toNat) (e:=aK) (l:=aF) (off:=r1.toNat) (len:=(aF.length-r1.toNat)) (z:=.own []) (et:=74) (k:=1) (s:=0) (ps:=[]) (by kernel_rfl) (by kernel_rfl) (by kernel_rfl) (tW (i:=r1) (q:=.i64) (by kernel_rfl) py) (by kernel_rfl) (by kernel_rfl) (λ_=>rfl) (by kernel_rfl) (by kernel_rfl) oJ lY)<|h.elim λjv h=>a7 2 h (hl:=(KH (t:=4) (s:=0) (n:=r1.toNat) (m:=(ba r1.toNat aF)) (e:=aK) (es:=nX aK aF r1.toNat (aF.length-r1.toNat) (.own [])) (by kernel_rfl) (by kernel_rfl) (by kernel_rfl) (by rw[GJ (by first|exact jv.1|omega)];exact jv.2.1) (K5 jv.1 jv.2.2) (by kernel_rfl)))
def cU(aF:aL)(r1 z0:Int)(J:(aL×Bool)->Prop)(h:aJ aF r1 (aV (z0+1)) J):bm aF r1 z0 J:=b2<|a1 5 h
def bj(aF:aL)(J:(aL×Bool)->Prop)(h:∃r1:Int,E8.C aF r1/\(if r1=(-1)then J (⟨aF,true⟩)else aJ aF r1 (aV (r1+1)) J)):∃r,J r/\C aF r:=cw Tryz.f106 B W res<|b4 6 h bD (hr:=by exact(pb (qb (s:=0) (ps:=[]) (l:=aF) (e:=aK) (e':=aK) (λ_=>rfl) (by kernel_rfl)) (sg qe))) λr1 _ h=>bn 4 h g2 g1 (λh=>a7 6 h) λh=>a1 8 h
end Fv
namespace Fi
def B:=cv Tryz.f88
def W:=[0,2,3,4,5,6,7,8,10,11,12,13,24]
def res(r:aL):D×List D:=(.sl (r.map aK),[])
def C(ab:List ByteArray)(r:aL):Prop:=bR env 88 [.sl (ab.map dQ)] (res r).1 (res r).2
def P(a:List Nat)(b:Fr)(J:aL->Prop):Prop:=ee env 88 W B a b (ec env 88 Tryz.f88 1 res J)
def aJ(ab:List ByteArray)(z0:List (ByteArray×Int))(ar:aL)(aI:Int)(J:aL->Prop):Prop:=P [1,1,1,0,1,0] [(0,.sl (ab.map dQ)),(3,(wY Value.string (λ(x:Int)=>D.lit (.int .i64 x)) z0)),(4,.own (ar.map (dK bc))),(10,.sl (ab.map dQ)),(11,aq (ab.length:Int)),(12,aq aI)] J
def bm(ab:List ByteArray)(z0:List (ByteArray×Int))(ar:aL)(aI z3:Int)(J:aL->Prop):Prop:=P [1,1,1,0,1,0,0,1,1,0,0,1,1,1] [(0,.sl (ab.map dQ)),(3,(wY Value.string (λ(x:Int)=>D.lit (.int .i64 x)) z0)),(4,.own (ar.map (dK bc))),(5,aq aI),(7,aq z3),(10,.sl (ab.map dQ)),(11,aq (ab.length:Int)),(12,aq aI)] J
def bE(ab:List ByteArray)(z0:List (ByteArray×Int))(ar:aL)(aI:Int)(J:aL->Prop)(h:(if aI<(ab.length:Int)then ∃a2,a_ ab aI=some a2/\(if(O1 a2 z0)=true then bm ab z0 ar aI (Mj a2 z0 0) J else(ar.length+1)*24<=140737488355328/\bm ab (tx a2 (ar.length:Int) z0) (ar++[[]]) aI (ar.length:Int) J)else ∃dv:(aL×Bool),Fv.C ar dv/\J dv.1)):aJ ab z0 ar aI J:=b2<|bn 2 h bJ bI (λh=>eA 5 dQ h λa2 aa h=>fe 7 (Y2 Up (λ_=>by kernel_rfl) (gT:=Value.string) (ev:=(λ(x:Int)=>D.lit (.int .i64 x))) (t:=181) (x:=(.tmp 18)) (kx:=(.tmp 19)) (s:=3) (ps:=[]) (l:=z0) (kd:=ep a2) (kv:=a2) (kt:=9) (FG:=3) (v0:=0) (by kernel_rfl) (by kernel_rfl) (by kernel_rfl) (by kernel_rfl) (by kernel_rfl) (by kernel_rfl) (by kernel_rfl) (by kernel_rfl))<|bn 7 h id iR (λh=>a1 4 h) λh=>c1 5 (dK bc) ar<|vn 6 (YU Up (λ_=>by kernel_rfl) (gT:=Value.string) (ev:=(λ(x:Int)=>D.lit (.int .i64 x))) (t:=181) (mx:=(.tmp 27)) (kx:=(.tmp 28)) (vx:=(.tmp 29)) (s:=3) (ps:=[]) (l:=z0) (kd:=ep a2) (kv:=a2) (kt:=9) (FG:=3) (v:=(ar.length:Int)) (d:=aq (ar.length:Int)) (by kernel_rfl) (by kernel_rfl) (by kernel_rfl) (by kernel_rfl) (by kernel_rfl) (by kernel_rfl) (by kernel_rfl) (by kernel_rfl) (by kernel_rfl) (Db (by kernel_rfl)))<|nq 4 (dK bc) ar ([[]]) h λh=>a1 2 h) λh=>I1 2 [(4,.own (ar.map aK))] (aay (fS:=[(4,.own (ar.map (dK bc)))]) (l:=ar) (e:=bc) (e':=bc) (s:=4) (by kernel_rfl) (by kernel_rfl) (by kernel_rfl) (λ_=>rfl) (by kernel_rfl) (by kernel_rfl)) <|
 Hh 2 h bD (λ(dv:(aL×Bool))=>App (l:=dv.1) (e:=aK) rfl (λ_=>rfl)) (hf:=(λ_=>h3)) λdv _ h=>a7 2 h
def cU(ab:List ByteArray)(z0:List (ByteArray×Int))(ar:aL)(aI z3:Int)(J:aL->Prop)(h:∃cj,a_ ar z3=some cj/\(cj.length+1)*8<=140737488355328/\aJ ab z0 (b7 ar z3 (cj++[aI])) (aV (aI+1)) J):bm ab z0 ar aI z3 J:=b2<|cG 5 (dK bc) h λcj c7 h=>cY 0 (dK bc) c7<|h.elim λgp h=>vn 2 (MJ (x:=(.tmp 38)) (y:=(.tmp 40)) (t:=74) (u:=74) (et:=3) (z:=aq 0) (k:=1) (c:=8) (e:=bc) (l:=cj) (m:=[aI]) (by kernel_rfl) (by kernel_rfl) (by kernel_rfl) (by kernel_rfl) (by kernel_rfl) (aed (s:=4) (ps:=[]) (n:=(z3.toNat)) (c:=0) (e:=(dK bc)) (l:=ar) (a:=cj) (by kernel_rfl) (by kernel_rfl) (hd c7).2 (by kernel_rfl) (by kernel_rfl) (Db (by kernel_rfl))) (by kernel_rfl) (by kernel_rfl) (by kernel_rfl) (by kernel_rfl) (by kernel_rfl) (λ_=>rfl) gp)<|fe 0 (Y0 (s:=4) (ps:=[]) (cs:=[.undef]) (t:=68) (x:=(.tmp 33)) (ix:=(.tmp 34)) (et:=74) (k:=1) (e:=(dK bc)) (l:=ar) (i:=z3) (q:=.i64) (a:=cj) (by kernel_rfl) (by kernel_rfl) (by kernel_rfl) (by kernel_rfl) (by kernel_rfl) (by kernel_rfl) c7 (by kernel_rfl))<|vn 0 (afV (t:=74) (x:=(.tmp 42)) (y:=(.tmp 41)) (s:=4) (ps:=[]) (n:=(z3.toNat)) (e:=(dK bc)) (l:=ar) (a:=cj) (b:=(cj++[aI])) (k:=1) (cs:=[.undef]) (d:=.own ((cj++[aI]).map bc)) (by kernel_rfl) (by kernel_rfl) (by kernel_rfl) (by kernel_rfl) (hd c7).2 (by kernel_rfl) (by kernel_rfl) (by kernel_rfl) (by kernel_rfl) (by kernel_rfl) (Db (by kernel_rfl))) <|
 a1 5 h
def bj(ab:List ByteArray)(J:aL->Prop)(h:aJ ab ([]) ([]) 0 J):∃r,J r/\C ab r:=cw Tryz.f88 B W res<|c1 12 dQ ab<|a1 2 h
end Fi
end Go.aS
namespace Go.aS
def xz.bp{c:ay}:xz.C c (decide ((c.length:Int)<2)):=by
 obtain⟨r,I,aa⟩:=xz.bj c (λr=>r=decide ((c.length:Int)<2)) rfl;rw[<-I];exact aa
namespace E8
def loop{ab:aL}{J:Int->Prop}(ao:ab.length<fM):∀(r:aL)(k:Nat),ab.drop k=r->J (vZ r k)->aJ ab k J
 |[],k,ah,h=>by
  apply bE;have:=gd ah;rw[if_neg (by omega)];exact h
 |c::r,k,ah,h=>by
  apply bE;have aj:=gl ah;rw[if_pos (by omega)];refine⟨c,jW ah,_,xz.bp,?_⟩;rw[Sq];simp only[vZ]at h
  split
  .rename_i I;have:mW c=false:=by simpa using I
   rw[this]at h;exact h
  .rename_i I;have:mW c=true:=by simpa using I
   rw[this]at h;rw[dx (by unfold fM at ao;omega)];exact loop ao r (k+1) (e4 ah) h
def bp{ab:aL}(ao:ab.length<fM):C ab (vZ ab 0):=by
 obtain⟨r,I,aa⟩:=bj ab (λr=>r=vZ ab 0) (loop ao ab 0 rfl rfl);rw[<-I];exact aa
end E8
namespace Fv
def loop{ab:aL}{J:aL×Bool->Prop}(ao:ab.length<fM)(ni:∀b,J (ab.filter mW,b)):∀(r:aL)(k j:Nat)(l:aL),ab.drop k=r->l.length=ab.length->l.drop k=ab.drop k->l.take j=(ab.take k).filter mW->j<=k->k<=ab.length->aJ l j k J
 |[],k,j,l,ah,hl,I,aa,aB,aW=>by
  apply bE;have aj:=gd ah;rw[if_neg (by omega)];refine⟨by omega,⟨by omega,by omega⟩,by omega,by omega,by omega,by omega,⟨by omega,by omega,by omega⟩,?_⟩;rw[du,aa,cc aj];exact ni _
 |c::r,k,j,l,ah,hl,I,aa,aB,aW=>by
  apply bE;have aj:=gl ah;rw[if_pos (by omega)];have rW:l.drop k=c::r:=by rw[I,ah]
  refine⟨c,jW rW,_,xz.bp,?_⟩;rw[Sq];have f_:ab.take (k+1)=ab.take k++[c]:=by rw[cu,eO ah];rfl
  split
  .rename_i ad;have ad:mW c=false:=by simpa using ad
   apply cU;rw[dx (by unfold fM at ao;omega)];refine loop ao ni r (k+1) j l (e4 ah) hl ?_ ?_ (by omega) (by omega)
   .rw [e4 rW,e4 ah]
   .rw [f_,c_,aa];simp[ad]
  .rename_i ad;have ad:mW c=true:=by simpa using ad
   obtain⟨a,aC⟩:=sF (l:=l) (i:=(j:Int)) (by omega) (by omega);refine⟨a,aC,?_⟩;apply cU;rw[dx (by unfold fM at ao;omega),dx (by unfold fM at ao;omega)];have ae:b7 l (j:Int) c=l.set j c:=by simp[b7]
   rw[ae];refine loop ao ni r (k+1) (j+1) (l.set j c) (e4 ah) (by simp[hl]) ?_ ?_ (by omega) (by omega)
   .rw [List.drop_set_of_lt (by omega),e4 rW,e4 ah]
   .rw [f_,c_,<-aa,cu];have aT:(l.set j c)[j]?=some c:=by rw[List.getElem?_set_self (by omega)]
    rw[aT,List.take_set_of_le (by omega)];simp[ad]
def bp{ab:aL}(ao:ab.length<fM):∃b,C ab (ab.filter mW,b):=by
 obtain⟨r,I,aa⟩:=bj ab (λr=>r.1=ab.filter mW) (by
  refine⟨_,E8.bp ao,?_⟩;rcases Qp (l:=ab) (k:=0)with⟨I,aa⟩|⟨n,I,aa,aB,c,aW,bO⟩
  .rw [if_pos I];exact(gD.2 aa).symm
  .rw [if_neg (by omega),I,Nat.zero_add,dx (by unfold fM at ao;omega)];refine loop (J:=λr=>r.1=ab.filter mW) ao (λb=>rfl) _ (n+1) n ab rfl rfl rfl ?_ (by omega) (by omega);have f_:ab.take (n+1)=ab.take n++[c]:=by rw[cu,aW];rfl
   rw[f_,c_,gD.2 aB]
   simp[bO])
 obtain⟨l,b⟩:=r;simp only at I;subst I;exact⟨b,aa⟩
end Fv
namespace Fi
def loop{ab:List ByteArray}{J:aL->Prop}(ao:ab.length<=10000)(ni:J (qE ab)):∀(r:List ByteArray)(k:Nat)(m:List (ByteArray×Int)),ab.drop k=r->akC m (e1 (ab.take k))->aJ ab m ((e1 (ab.take k)).map (cls (ab.take k))) k J
 |[],k,m,ah,hm=>by
  apply bE;have aj:=gd ah;rw[if_neg (by omega),cc aj];have hlen:((e1 ab).map (cls ab)).length<fM:=by
   rw[b5];have:∀l:List ByteArray,(e1 l).length<=l.length:=by
    intro l;refine FP (p:=λl=>(e1 l).length<=l.length) (by simp[e1]) (λl b aN=>?_) l;rw[ra]
    split
    .simp;omega
    .simp;omega
   have:=this ab;unfold fM;omega
  obtain⟨b,ag⟩:=Fv.bp hlen;exact⟨_,ag,ni⟩
 |a::r,k,m,ah,hm=>by
  apply bE;have aj:=gl ah;rw[if_pos (by omega)];refine⟨a,jW ah,?_⟩;have f_:ab.take (k+1)=ab.take k++[a]:=by rw[cu,eO ah];rfl
  have hlen:(ab.take k).length=k:=by rw[List.length_take];omega
  have hle:(e1 (ab.take k)).length<=10000:=by
   have:∀l:List ByteArray,(e1 l).length<=l.length:=by
    intro l;refine FP (p:=λl=>(e1 l).length<=l.length) (by simp[e1]) (λl b aN=>?_) l;rw[ra]
    split
    .simp;omega
    .simp;omega
   have:=this (ab.take k);omega
  have db:∀b,(cls (ab.take k) b).length<=10000:=λb=>by
   unfold cls;rw[b5];exact Nat.le_trans (List.length_filter_le _ _) (by simp;omega)
  by_cases aC:a∈e1 (ab.take k)
  .have ak:mb a m=some ((k0 (e1 (ab.take k)) a:Nat):Int):=by rw[hm a,if_pos aC]
   rw[if_pos (by simp[O1,ak])];apply cU;have hi:k0 (e1 (ab.take k)) a<(e1 (ab.take k)).length:=Uo aC;have ef:Mj a m 0=((k0 (e1 (ab.take k)) a:Nat):Int):=by simp[Mj,ak]
   rw[ef];refine⟨cls (ab.take k) a,?_,by have:=db a;omega,?_⟩
   .rw [gP,eb,LN aC];rfl
   .rw [dx (by omega)];have aN:=loop ao ni r (k+1) m (e4 ah) (by rw[f_,ra,if_pos aC];exact hm);rw[f_,ra,if_pos aC]at aN;have e:(e1 (ab.take k)).map (cls (ab.take k++[a]))=b7 ((e1 (ab.take k)).map (cls (ab.take k))) ((k0 (e1 (ab.take k)) a:Nat):Int) (cls (ab.take k) a++[(k:Int)]):=by
     unfold b7;rw[du];apply List.ext_getElem?;intro q;rw[eb,List.getElem?_set,eb,b5];by_cases au:k0 (e1 (ab.take k)) a=q
     .subst au;rw[if_pos rfl,if_pos hi,LN aC];simp[Gr,hlen]
     .rw [if_neg au];cases av:(e1 (ab.take k))[q]? with
      |none=>rfl
      |some b=>
       simp only[Option.map_some,aE];rw[Gr,if_neg];rintro rfl;exact au (Tq Z3 av)
    rw[e]at aN;exact aN
  .have ak:mb a m=none:=by rw[hm a,if_neg aC]
   rw[if_neg (by simp[O1,ak])];have aiq:a ∉ ab.take k:=λh=>aC (z_.2 h);refine⟨by rw[b5];omega,?_⟩;apply cU;refine⟨[],?_,by simp,?_⟩
   .rw [gP,dR (ie _)];simp
   .rw [dx (by omega),b5];have aN:=loop ao ni r (k+1) (tx a ((e1 (ab.take k)).length:Int) m) (e4 ah) (by
     rw[f_,ra,if_neg aC];intro b;rw[SD];by_cases dH:a=b
     .subst dH;rw[if_pos rfl,if_pos (by simp),To aC]
     .rw [if_neg dH,hm b];have:b∈e1 (ab.take k)++[a]↔b∈e1 (ab.take k):=by simp[Ne.symm dH]
      by_cases ag:b∈e1 (ab.take k)
      .rw [if_pos ag,if_pos (this.2 ag),Un ag]
      .rw [if_neg ag,if_neg (λh=>ag (this.1 h))])
    rw[f_,ra,if_neg aC]at aN;have e:(e1 (ab.take k)++[a]).map (cls (ab.take k++[a]))=b7 ((e1 (ab.take k)).map (cls (ab.take k))++[[]]) ((e1 (ab.take k)).length:Int) ([]++[(k:Int)]):=by
     unfold b7;rw[du,gj _ _ (by simp),b5,Nat.sub_self,hb,cx];congr 1
     .refine List.map_congr_left λb ag=>?_;rw[Gr,if_neg];rintro rfl;exact aC ag
     .simp [Gr,adb aiq,hlen]
    rw[e]at aN;exact aN
def bp{ab:List ByteArray}(ao:ab.length<=10000):C ab (qE ab):=by
 obtain⟨r,I,aa⟩:=bj ab (λr=>r=qE ab) (by
  have:=loop (J:=λr=>r=qE ab) ao rfl ab 0 [] rfl (by intro a;simp[mb,e1])
  simpa[e1]using this)
 rw[<-I];exact aa
end Fi
section
variable{O fc:Type}[DecidableEq O][DecidableEq fc]
structure Alike(l:List O)(m:List fc):Prop where
 len:l.length=m.length
 iff:∀i j:Nat,i<l.length->j<l.length->(l[i]?=l[j]?↔m[i]?=m[j]?)
def aaP{l:List O}{m:List fc}(h:Alike l m){k:Nat}{a:O}{b:fc}(aC:l[k]?=some a)(ag:m[k]?=some b):cls l a=cls m b:=by
 unfold cls;rw[h.len];congr 1;refine hc λi hi=>?_;have aj:=(cD.1 aC).1;have:=h.iff i k (by rw[h.len];simpa using hi) aj;rw[aC,ag]at this;rw[decide_eq_decide];exact this
def JV{l:List O}{k:Nat}{a:O}:a∈l.take k↔∃j,j<k/\l[j]?=some a:=by
 rw[gC];constructor
 .rintro ⟨j,aH⟩;rw[List.getElem?_take]at aH
  split at aH
  .rename_i h;exact⟨j,h,aH⟩
  .cases aH
 .rintro ⟨j,I,aa⟩;exact⟨j,by rw[List.getElem?_take_of_lt I];exact aa⟩
def Co{l:List O}{k:Nat}{a:O}(h:l[k]?=some a):l.take (k+1)=l.take k++[a]:=by rw[cu,h];rfl
def SC{l:List O}{m:List fc}(h:Alike l m):∀k,k<=l.length->(e1 (l.take k)).map (cls l)=(e1 (m.take k)).map (cls m)
 |0,_=>by simp[e1]
 |k+1,aj=>by
  have aN:=SC h k (by omega);have hl:=dn (l:=l) (i:=k) (by omega);have hm:=dn (l:=m) (i:=k) (by rw[<-h.len];omega);rw[Co hl,Co hm,ra,ra];have e:l[k]∈e1 (l.take k)↔m[k]'(by rw[<-h.len];omega)∈e1 (m.take k):=by
   rw[z_,z_,JV,JV];constructor
   .rintro ⟨j,I,aa⟩;refine⟨j,I,?_⟩;rw[<-hm,<-h.iff j k (by omega) (by omega),aa,hl]
   .rintro ⟨j,I,aa⟩;refine⟨j,I,?_⟩;rw[<-hl,h.iff j k (by omega) (by omega),aa,hm]
  by_cases ch:l[k]∈e1 (l.take k)
  .rw [if_pos ch,if_pos (e.1 ch)];exact aN
  .rw [if_neg ch,if_neg (λaU=>ch (e.2 aU)),cx,cx,aN];simp only[List.map_cons,List.map_nil,aaP h hl hm]
def Z5{l:List O}{m:List fc}(h:Alike l m):qE l=qE m:=by
 have:=SC h l.length (ie _);rw[fx,h.len,fx]at this;unfold qE;rw[this]
def Rk{l:List O}{a:O}:(cls l a).Pairwise (·<·):=by
 unfold cls;rw[hQ];refine List.Pairwise.imp ?_ (List.pairwise_lt_range.filter _);intro i j h;omega
def adm{c:ay}(h:c.Pairwise (·<·)){i:Int}(hi:i∈c):c.headD 0<=i:=by
 match c,h,hi with
 |a::t,h,hi=>
  simp only[List.headD_cons];rcases aQ.1 hi with rfl|hi
  .omega
  .have:=(aA.1 h).1 i hi;omega
def acf{c:ay}(h:c≠[]):c.headD 0∈c:=by
 match c,h with
 |a::t,_=>simp
def aep{l:List O}{a:O}(h:a∈l):cls l a≠[]:=by
 obtain⟨k,aj⟩:=gC.1 h;intro ao;have:((k:Nat):Int)∈cls l a:=sG.2 (by rw[gP];exact aj);rw[ao]at this;cases this
def Sn{l:List O}:∀k,k<=l.length->((e1 (l.take k)).map (cls l)).Pairwise (λc d=>c.headD 0<d.headD 0/\∀i∈c,i ∉ d)/\∀a∈e1 (l.take k),(cls l a).headD 0<(k:Int)
 |0,_=>by simp[e1]
 |k+1,aj=>by
  obtain⟨i1,i2⟩:=Sn (l:=l) k (by omega);obtain⟨x,hl⟩:∃x,l[k]?=some x:=⟨_,dn (by omega)⟩
  rw[Co hl,ra]
  split
  .exact ⟨i1,λa aC=>by have:=i2 a aC;omega⟩
  .rename_i ch;have cI:=aep (aM hl);have ai_:((k:Nat):Int)∈cls l x:=sG.2 (by rw[gP];exact hl);have Wf:(cls l x).headD 0=(k:Int):=by
    have I:=adm Rk ai_;have aa:=sG.1 (acf cI);obtain⟨aB,aW⟩:=hd aa;rcases Int.lt_or_le ((cls l x).headD 0) (k:Int)with bO|bO
    .exfalso;apply ch;rw[z_,JV];exact⟨_,by omega,aW⟩
    .omega
   refine⟨?_,?_⟩
   .rw [cx,List.pairwise_append];refine⟨i1,by simp,λc ad d ah=>?_⟩;simp only[List.map_cons,List.map_nil,cT]at ah;subst ah;obtain⟨b,ag,rfl⟩:=hP.1 ad;refine⟨by rw[Wf];exact i2 b ag,λi hi Ik=>?_⟩;have e:=(sG.1 hi).symm.trans (sG.1 Ik);rw[bo e]at ag;exact ch ag
   .intro a aC;rcases cz.1 aC with aC|aC
    .have:=i2 a aC;omega
    .simp only[cT]at aC;subst aC;rw[Wf];omega
def part(l:List O):ew:=⟨l.length,qE l⟩
def CX{l:List O}{c:ay}:c∈qE l↔∃a∈l,c=cls l a/\2<=c.length:=by
 unfold qE;simp only[hq,hP,decide_eq_true_eq];constructor
 .rintro ⟨⟨a,I,rfl⟩,aa⟩;exact⟨a,z_.1 I,rfl,aa⟩
 .rintro ⟨a,I,rfl,aa⟩;exact⟨⟨a,z_.2 I,rfl⟩,aa⟩
def ad4{l:List O}:Az (l.length:Int) (qE l):=by
 have af:=(Sn (l:=l) l.length (ie _)).1;rw[fx]at af;have fy:(qE l).Pairwise (λc d=>c.headD 0<d.headD 0/\∀i∈c,i ∉ d):=af.filter _;refine⟨λc ad=>?_,λc ad=>?_,λc ad i hi=>?_,fy.imp λh=>h.1,fy.imp λh=>h.2⟩
 .obtain ⟨a,_,_,h⟩:=CX.1 ad;exact h
 .obtain ⟨a,_,rfl,_⟩:=CX.1 ad;exact Rk
 .obtain ⟨a,_,rfl,_⟩:=CX.1 ad;obtain⟨I,aa⟩:=hd (sG.1 hi);have:=(cD.1 aa).1;omega
def Ko{l:List O}(h:l.length<=1000):lh (part l)=true:=x0.2 ⟨by simp[part],by simp only[part];omega,ad4⟩
def abh{l:List O}{i j:Int}(hi:0<=i/\i<l.length)(aH:0<=j/\j<l.length):oC (part l) i j↔a_ l i=a_ l j:=by
 constructor
 .rintro (rfl|⟨c,ad,I,aa⟩)
  .rfl
  .obtain ⟨a,_,rfl,_⟩:=CX.1 ad;rw[sG.1 I,sG.1 aa]
 .intro h;by_cases iT:i=j
  .exact .inl iT
  .obtain ⟨a,aC⟩:=sF (l:=l) hi.1 hi.2;have I:i∈cls l a:=sG.2 aC;have aa:j∈cls l a:=sG.2 (h ▸ aC);refine .inr ⟨cls l a,CX.2 ⟨a,?_,rfl,?_⟩,I,aa⟩
   .exact aM (hd aC).2
   .match ad:cls l a,I,aa with
    |[x],I,aa=>simp at I aa;exact absurd (I.trans aa.symm) iT
    |_::_::_,_,_=>simp
def aag{l:List O}(h:l.length<=1000):sK (part l):=by
 obtain⟨I,aa⟩:=agm (Ko h);exact⟨by unfold fM;omega,λc ad=>by have:=aa c ad;unfold fM;omega⟩
end
def abE{O fc:Type}[DecidableEq O][DecidableEq fc]{l:List O}{m:List fc}(hl:l.length=m.length)(h:∀i j:Nat,i<l.length->j<l.length->(l[i]?=l[j]?↔m[i]?=m[j]?)):part l=part m:=by
 unfold part;rw[Z5 (l:=l) (m:=m) ⟨hl,h⟩,hl]
section
variable{O:Type}[DecidableEq O]
end
end Go.aS
namespace Go.aS
open Go.Proofs D
set_option maxRecDepth 100000
set_option maxHeartbeats 4000000
namespace zv
def B:=cv Tryz.f60
def W:=[0,1,2,4,5,6,7,8,9,11,12,13,21,22,23,24,28,29,30,31]
def res(r:ew):D×List D:=(.agg [aq r.Rows,.sl (r.eh.map aK)],[])
def C(ab:cH)(ai:Int)(r:ew):Prop:=bR env 60 [.agg [ep ab.Name,.sl (ab.bl.map dQ),.sl (ab.Rows.map gk)],cC ai] (res r).1 (res r).2
def P(a:List Nat)(b:Fr)(J:ew->Prop):Prop:=ee env 60 W B a b (ec env 60 Tryz.f60 2 res J)
def aJ(ab:cH)(r1:ay)(z0:List ByteArray)(ar:Int)(J:ew->Prop):Prop:=P [1,1,1,0,1,0] [(0,.agg [ep ab.Name,.sl (ab.bl.map dQ),.sl (ab.Rows.map gk)]),(2,.box [ep ab.Name,.sl (ab.bl.map dQ),.sl (ab.Rows.map gk)]),(4,.box [aq 0,.own []]),(5,.own (r1.map bc)),(6,.own (z0.map dQ)),(21,.sl (ab.Rows.map gk)),(22,aq (ab.Rows.length:Int)),(23,aq ar)] J
def bm(ab:cH)(r1:ay)(z0:List ByteArray)(ar:Int)(a3:h7)(aI:List UInt8)(z3 z4:Int)(J:ew->Prop):Prop:=P [1,1,1,0,1,0,0,1,1,0,0,1,1,0,1,0] [(0,.agg [ep ab.Name,.sl (ab.bl.map dQ),.sl (ab.Rows.map gk)]),(2,.box [ep ab.Name,.sl (ab.bl.map dQ),.sl (ab.Rows.map gk)]),(4,.box [aq 0,.own []]),(5,.own (r1.map bc)),(6,.own (z0.map dQ)),(7,aq ar),(8,.box [aq a3.my,.sl (a3.di.map ja)]),(9,.bld 156 5 aI),(21,.sl (ab.Rows.map gk)),(22,aq (ab.Rows.length:Int)),(23,aq z3),(28,.alias 5 []),(29,aq (r1.length:Int)),(30,aq z4)] J
def bE(ab:cH)(r1:ay)(z0:List ByteArray)(ar:Int)(J:ew->Prop)(h:(if ar<(ab.Rows.length:Int)then ∃a3,a_ ab.Rows ar=some a3/\bm ab r1 z0 ar a3 ([]) ar 0 J else ∃dw:aL,Fi.C z0 dw/\J (⟨(ab.Rows.length:Int),dw⟩:ew))):aJ ab r1 z0 ar J:=b2<|bn 2 h bJ bI (λh=>eA 5 gk h λa3 aW h=>c1 10 bc r1<|a1 2 h) λh=>I1 2 [(0,.agg [ep ab.Name,.sl (ab.bl.map dQ),.sl (ab.Rows.map gk)]),(2,.box [ep ab.Name,.sl (ab.bl.map dQ),.sl (ab.Rows.map gk)]),(4,.box [aq 0,.own []]),(6,.sl (z0.map dQ))] (Rg (fS:=[(0,.agg [ep ab.Name,.sl (ab.bl.map dQ),.sl (ab.Rows.map gk)]),(2,.box [ep ab.Name,.sl (ab.bl.map dQ),.sl (ab.Rows.map gk)]),(4,.box [aq 0,.own []]),(6,.own (z0.map dQ))]) (l:=z0) (e:=dQ) (e':=dQ) (s:=6) (by kernel_rfl) (by kernel_rfl) (by kernel_rfl) (λ_=>rfl) (by kernel_rfl) (by kernel_rfl))<|c1 3 gk ab.Rows<|EY 1 h bD (hf:=(λ_=>LO)) λdw _ h=>a7 3 h
def cU(ab:cH)(r1:ay)(z0:List ByteArray)(ar:Int)(a3:h7)(aI:List UInt8)(z3 z4:Int)(J:ew->Prop)(h:(if z4<(r1.length:Int)then ∃eQ,a_ r1 z4=some eQ/\∃hh,a_ a3.di eQ=some hh/\∃jQ:ByteArray×Int,zp.C hh jQ/\aI.length+jQ.1.size<=140737488355328/\bm ab r1 z0 ar a3 (aI++jQ.1.data.toList) z3 (aV (z4+1)) J else ∃kV,a_ z0 ar=some kV/\aJ ab r1 (b7 z0 ar (rE aI)) (aV (z3+1)) J)):bm ab r1 z0 ar a3 aI z3 z4 J:=b2<|bn 2 h bJ bI (λh=>cG 4 bc h λeQ gp h=>cY 0 bc gp<|eA 6 ja h λhh jw h=>b4 1 h bD (hf:=(λ_=>gO (mj (e_ rfl (e_ rfl jc))) rfl)) λjQ _ h=>h.elim λoJ h=>wG 8 (show bR env 86 [.bld 156 5 aI,ep jQ.1] (.bt [aq (qi jQ.1),.lit .nilIface]) [.bld 156 5 (aI++jQ.1.data.toList)]from abl (by kernel_rfl) oJ) (hf:=(h3))<|a1 5 h) λh=>wG 6 (show bR env 87 [.bld 156 5 aI] (ep (rE aI)) [.box [.undef,.undef]]from aal (by kernel_rfl))<|cG 0 dQ h λkV jv h=>iI 0 dQ (rE aI) jv<|a1 5 h
def bj(ab:cH)(ai:Int)(J:ew->Prop)(h:∃r1:ay,sh.C ai r1/\(0<=(ab.Rows.length:Int)/\(ab.Rows.length:Int)*16<=281474976710656)/\aJ ab r1 (a6 ab.Rows.length (⟨#[]⟩:ByteArray)) 0 J):∃r,J r/\C ab ai r:=cw Tryz.f60 B W res<|b4 6 h bD (hf:=(λ_=>gO (g0 (e:=bc) (λ_=>rfl)) rfl)) λr1 _ h=>c1 5 gk ab.Rows<|h.elim λaa h=>fe 0 (C4 (t:=42) (x:=(.tmp 18)) (y:=(.tmp 18)) (q:=.i64) (i:=(ab.Rows.length:Int)) (et:=9) (z:=ep (⟨#[]⟩:ByteArray)) (e:=dQ) (a:=(⟨#[]⟩:ByteArray)) (k:=16) (by kernel_rfl) (by kernel_rfl) (by kernel_rfl) (by kernel_rfl) (by kernel_rfl) (by kernel_rfl) (by kernel_rfl) (by kernel_rfl) (by kernel_rfl) (by kernel_rfl) aa.1 aa.2)<|c1 5 gk ab.Rows<|a1 2 h
end zv
namespace BY
def B:=cv Tryz.f58
def W:=[0,1,2,4]
def res(r:Bool):D×List D:=(dm r,[])
def C(ab:cH)(ai:Int)(r:Bool):Prop:=bR env 58 [.agg [ep ab.Name,.sl (ab.bl.map dQ),.sl (ab.Rows.map gk)],cC ai] (res r).1 (res r).2
def bj(ab:cH)(ai:Int)(J:Bool->Prop)(h:0<=(ab.bl.length:Int)/\J ((ft .u64 (IntKind.wrap .u64 ai) (ab.bl.length:Int))==0)):∃r,J r/\C ab ai r:=cw Tryz.f58 B W res<|c1 9 dQ ab.bl<|h.elim λI h=>ma 0 (p_ (t:=130) (q:=.u64) (q':=.i64) (i1:=(IntKind.wrap .u64 ai)) I)<|a7 3 h
end BY
namespace BH
def B:=cv Tryz.f30
def W:=[0,1,2,4,5,7,8,9,11,12,13,14]
def res(r:ByteArray):D×List D:=(ep r,[])
def C(ab:h7)(ai:Int)(r:ByteArray):Prop:=bR env 30 [.agg [aq ab.my,.sl (ab.di.map ja)],cC ai] (res r).1 (res r).2
def aJ(ab:h7)(z0:ByteArray)(r1:ay)(ar:Int)(J:ByteArray->Prop):Prop:=ee env 30 W B [1,1,0,1,0] [(0,.agg [aq ab.my,.sl (ab.di.map ja)]),(2,.box [aq ab.my,.sl (ab.di.map ja)]),(5,ep z0),(11,.own (r1.map bc)),(12,aq (r1.length:Int)),(13,aq ar)] (ec env 30 Tryz.f30 2 res J)
def bE(ab:h7)(z0:ByteArray)(r1:ay)(ar:Int)(J:ByteArray->Prop)(h:(if ar<(r1.length:Int)then ∃bA,a_ r1 ar=some bA/\∃a4,a_ ab.di bA=some a4/\∃nu:ByteArray×Int,zp.C a4 nu/\(z0).size+(nu.1).size<=9223372036854775807/\aJ ab (z0++nu.1) r1 (aV (ar+1)) J else J z0)):aJ ab z0 r1 ar J:=b2<|bn 2 h bJ bI (λh=>cG 4 bc h λbA aB h=>cY 0 bc aB<|eA 6 ja h λa4 bO h=>b4 1 h bD (hf:=(λ_=>gO (mj (e_ rfl (e_ rfl jc))) rfl)) λnu _ h=>h.elim λgp h=>ma 9 (ac6 (t:=9) gp)<|a1 6 h) λh=>a7 7 h
def bj(ab:h7)(ai:Int)(J:ByteArray->Prop)(h:∃r1:ay,sh.C ai r1/\aJ ab (⟨#[]⟩:ByteArray) r1 0 J):∃r,J r/\C ab ai r:=cw Tryz.f30 B W res<|b4 9 h bD (hf:=(λ_=>gO (g0 (e:=bc) (λ_=>rfl)) rfl)) λr1 _ h=>c1 0 bc r1<|a1 2 h
end BH
namespace vu
def res(r:Bool×Int):D×List D:=(.bt [dm r.1,aq r.2],[])
def C(ab:cH)(ai:br)(r:Bool×Int):Prop:=bR env 10 [.agg [ep ab.Name,.sl (ab.bl.map dQ),.sl (ab.Rows.map gk)],.agg [cC ai.bX,cC ai.bZ]] (res r).1 (res r).2
end vu
namespace BS
def B:=cv Tryz.f85
def W:=[0,1,2,4]
def res(r:Bool):D×List D:=(dm r,[])
def C(ab:Int)(dq vk:ay)(r:Bool):Prop:=bR env 85 [aq ab,.ref [.sl (dq.map bc)],.ref [.sl (vk.map bc)]] (res r).1 (res r).2
def bj(ab:Int)(dq vk:ay)(J:Bool->Prop)(h:∃a2,a_ dq ab=some a2/\∃a3,a_ vk 0=some a3/\∃cj,a_ dq a3=some cj/\J (a2 != cj)):∃r,J r/\C ab dq vk r:=cw Tryz.f85 B W res<|eA 6 bc h λa2 aa h=>eA 3 bc h λa3 aW h=>eA 1 bc h λcj c7 h=>a7 4 h
end BS
namespace Fc
def B:=cv Tryz.f104
def W:=[0,1,4,5,7,8,9,16]
def res(r:Int):D×List D:=(aq r,[])
def C(ab dq n_:ay)(r:Int):Prop:=bR env 104 [.sl (ab.map bc),.fn 85 [.ref [.sl (dq.map bc)],.ref [.sl (n_.map bc)]]] (res r).1 (res r).2
def aJ(ab dq n_:ay)(z0:Int)(J:Int->Prop):Prop:=ee env 104 W B [1,0,1,0] [(0,.sl (ab.map bc)),(1,.fn 85 [.ref [.sl (dq.map bc)],.ref [.sl (n_.map bc)]]),(7,aq (ab.length:Int)),(8,aq z0)] (ec env 104 Tryz.f104 2 res J)
def bE(ab dq n_:ay)(z0:Int)(J:Int->Prop)(h:(if z0<(ab.length:Int)then ∃a2,a_ ab z0=some a2/\∃bx:Bool,BS.C a2 dq n_ bx/\(if bx=true then J z0 else aJ ab dq n_ (aV (z0+1)) J)else J (-1))):aJ ab dq n_ z0 J:=b2<|bn 2 h bJ bI (λh=>eA 11 bc h λa2 aa h=>iy 1 h bD (λ_ h=>a7 6 h) λ_ h=>a1 7 h) λh=>a7 6 h
def bj(ab dq n_:ay)(J:Int->Prop)(h:aJ ab dq n_ 0 J):∃r,J r/\C ab dq n_ r:=cw Tryz.f104 B W res<|c1 5 bc ab<|a1 2 h
end Fc
namespace BJ
def B:=cv Tryz.f84
def W:=[0,1,4]
def res(r:Bool):D×List D:=(dm r,[])
def C(ab dq n_:ay)(r:Bool):Prop:=bR env 84 [.sl (ab.map bc),.fn 85 [.ref [.sl (dq.map bc)],.ref [.sl (n_.map bc)]]] (res r).1 (res r).2
def bj(ab dq n_:ay)(J:Bool->Prop)(h:∃r1:Int,Fc.C ab dq n_ r1/\J (decide (0<=r1))):∃r,J r/\C ab dq n_ r:=cw Tryz.f84 B W res<|b4 6 h bD λr1 _ h=>a7 3 h
end BJ
namespace BV
def B:=cv Tryz.f83
def W:=[0,1,2,3]
def res(r:Bool):D×List D:=(dm r,[])
def C(ab dq:ay)(r:Bool):Prop:=bR env 83 [.sl (ab.map bc),.ref [.sl (dq.map bc)]] (res r).1 (res r).2
def bj(ab dq:ay)(J:Bool->Prop)(h:∃r1:Bool,BJ.C ab dq ab r1/\J r1):∃r,J r/\C ab dq r:=cw Tryz.f83 B W res<|b4 7 h bD λr1 _ h=>a7 2 h
end BV
namespace Fe
def B:=cv Tryz.f74
def W:=[0,1,4,5,7,8,9,16]
def res(r:Int):D×List D:=(aq r,[])
def C(ab:aL)(dq:ay)(r:Int):Prop:=bR env 74 [.sl (ab.map aK),.fn 83 [.ref [.sl (dq.map bc)]]] (res r).1 (res r).2
def aJ(ab:aL)(dq:ay)(z0:Int)(J:Int->Prop):Prop:=ee env 74 W B [1,0,1,0] [(0,.sl (ab.map aK)),(1,.fn 83 [.ref [.sl (dq.map bc)]]),(7,aq (ab.length:Int)),(8,aq z0)] (ec env 74 Tryz.f74 2 res J)
def bE(ab:aL)(dq:ay)(z0:Int)(J:Int->Prop)(h:(if z0<(ab.length:Int)then ∃a2,a_ ab z0=some a2/\∃bx:Bool,BV.C a2 dq bx/\(if bx=true then J z0 else aJ ab dq (aV (z0+1)) J)else J (-1))):aJ ab dq z0 J:=b2<|bn 2 h bJ bI (λh=>eA 11 aK h λa2 aa h=>iy 1 h bD (λ_ h=>a7 6 h) λ_ h=>a1 7 h) λh=>a7 6 h
def bj(ab:aL)(dq:ay)(J:Int->Prop)(h:aJ ab dq 0 J):∃r,J r/\C ab dq r:=cw Tryz.f74 B W res<|c1 5 aK ab<|a1 2 h
end Fe
namespace BK
def B:=cv Tryz.f48
def W:=[0,1,4]
def res(r:Bool):D×List D:=(dm r,[])
def C(ab:aL)(dq:ay)(r:Bool):Prop:=bR env 48 [.sl (ab.map aK),.fn 83 [.ref [.sl (dq.map bc)]]] (res r).1 (res r).2
def bj(ab:aL)(dq:ay)(J:Bool->Prop)(h:∃r1:Int,Fe.C ab dq r1/\J (decide (0<=r1))):∃r,J r/\C ab dq r:=cw Tryz.f48 B W res<|b4 6 h bD λr1 _ h=>a7 3 h
end BK
namespace BX
def B:=cv Tryz.f59
def W:=[0,1,2,3,4,5,9]
def res(r:Bool):D×List D:=(dm r,[])
def C(ab ai:ew)(r:Bool):Prop:=bR env 59 [.agg [aq ab.Rows,.sl (ab.eh.map aK)],.agg [aq ai.Rows,.sl (ai.eh.map aK)]] (res r).1 (res r).2
def bj(ab ai:ew)(J:Bool->Prop)(h:∃r1:Int,B1.C ab ai r1/\(if r1=0 then ∃r2:ay,Fl.C ai r2/\∃bx:Bool,BK.C ab.eh r2 bx/\J (not bx)else J false)):∃r,J r/\C ab ai r:=cw Tryz.f59 B W res<|b4 8 h bD λr1 _ h=>g5 0 h g4 g3 (λh=>a7 5 h) λh=>b4 5 h bD (hf:=(λ_=>gO (g0 (e:=bc) (λ_=>rfl)) rfl)) λr2 _ h=>b4 7 h bD (hr:=by exact(sg (pb (aec (aar (acO (s:=5) (ps:=[]) (by kernel_rfl) (vY (o9 (e:=bc) (e':=bc) (λ_=>rfl) r2) GN)) abv)) qe))) λbx _ h=>a7 3 h
end BX
end Go.aS
namespace Go.aS
def abY{a b:ew}(h:wB a b=0):lh a=true/\lh b=true/\a.Rows=b.Rows:=by
 unfold wB at h
 split at h
 .split at h
  .split at h
   .exact ⟨by assumption,by assumption,by assumption⟩
   .omega
  .omega
 .omega
def qo(l c:ay)(i:Int):Prop:=r7 l i≠r7 l (c.headD 0)
structure uD(l c:ay):Prop where
 ne:c≠[]
 has:∀i∈c,∃a,a_ l i=some a
def BS.bp{l c:ay}(h:uD l c){i:Int}(hi:i∈c):∃b,BS.C i l c b/\(b=true↔qo l c i):=by
 obtain⟨a,aC⟩:=h.has i hi;obtain⟨aO,NN⟩:∃aO,c[0]?=some aO:=by
  match c,h.ne with
  |x::t,_=>exact⟨x,rfl⟩
 have ah:c.headD 0=aO:=by
  match c,NN with
  |x::t,e=>simpa using e
 obtain⟨b,ag⟩:=h.has aO (aM NN);obtain⟨r,I,aa⟩:=BS.bj i l c (λr=>(r=true↔qo l c i)) (by
  refine⟨a,aC,aO,by have:=gP (l:=c) (k:=0);rw[NN]at this;exact this,b,ag,?_⟩;unfold qo;rw[ah,TV aC,TV ag]
  simp)
 exact⟨r,aa,I⟩
namespace Fc
def loop{l c:ay}(h:uD l c)(ao:c.length<fM):∀(r:ay)(k:Nat),c.drop k=r->(∀i∈c.take k,¬qo l c i)->aJ c l c k (λr=>(0<=r↔∃i∈c,qo l c i))
 |[],k,ah,ag=>by
  apply bE;have aj:=gd ah;rw[if_neg (by omega)];rw[cc aj]at ag;constructor
  .intro h;omega
  .rintro ⟨i,I,aa⟩;exact absurd aa (ag i I)
 |i::r,k,ah,ag=>by
  apply bE;have aj:=gl ah;have hi:=aM (eO ah);rw[if_pos (by omega)];obtain⟨b,I,aa⟩:=BS.bp h hi;refine⟨i,jW ah,b,I,?_⟩
  split
  .rename_i A0;exact⟨λ_=>⟨i,hi,aa.1 A0⟩,λ_=>by omega⟩
  .rename_i u2;rw[dx (by unfold fM at ao;omega)];refine loop h ao r (k+1) (e4 ah) λj aH=>?_;rw[Co (eO ah)]at aH;rcases cz.1 aH with aH|aH
   .exact ag j aH
   .simp at aH;subst aH;exact λaU=>u2 (aa.2 aU)
def bp{l c:ay}(h:uD l c)(ao:c.length<fM):∃r,C c l c r/\(0<=r↔∃i∈c,qo l c i):=by
 obtain⟨r,I,aa⟩:=bj c l c (λr=>(0<=r↔∃i∈c,qo l c i)) (loop h ao c 0 rfl (by simp));exact⟨r,aa,I⟩
end Fc
def BJ.bp{l c:ay}(h:uD l c)(ao:c.length<fM):∃b,BJ.C c l c b/\(b=true↔∃i∈c,qo l c i):=by
 obtain⟨r,I,aa⟩:=BJ.bj c l c (λb=>(b=true↔∃i∈c,qo l c i)) (by
  obtain⟨q,b_,cM⟩:=Fc.bp h ao;refine⟨q,b_,?_⟩
  rw[<-cM];simp)
 exact⟨r,aa,I⟩
def BV.bp{l c:ay}(h:uD l c)(ao:c.length<fM):∃b,BV.C c l b/\(b=true↔∃i∈c,qo l c i):=by
 obtain⟨r,I,aa⟩:=BV.bj c l (λb=>(b=true↔∃i∈c,qo l c i)) (BJ.bp h ao);exact⟨r,aa,I⟩
def yn(l:ay)(c:ay):Prop:=∃i∈c,qo l c i
namespace Fe
def loop{l:ay}{cs:aL}(h:∀c∈cs,uD l c)(ao:cs.length<fM)(qL:∀c∈cs,c.length<fM):∀(r:aL)(k:Nat),cs.drop k=r->(∀c∈cs.take k,¬yn l c)->aJ cs l k (λr=>(0<=r↔∃c∈cs,yn l c))
 |[],k,ah,ag=>by
  apply bE;have aj:=gd ah;rw[if_neg (by omega)];rw[cc aj]at ag;constructor
  .intro h;omega
  .rintro ⟨i,I,aa⟩;exact absurd aa (ag i I)
 |c::r,k,ah,ag=>by
  apply bE;have aj:=gl ah;have ad:=aM (eO ah);rw[if_pos (by omega)];obtain⟨b,I,aa⟩:=BV.bp (h c ad) (qL c ad);refine⟨c,jW ah,b,I,?_⟩
  split
  .rename_i A0;exact⟨λ_=>⟨c,ad,aa.1 A0⟩,λ_=>by omega⟩
  .rename_i u2;rw[dx (by unfold fM at ao;omega)];refine loop h ao qL r (k+1) (e4 ah) λj aH=>?_;rw[Co (eO ah)]at aH;rcases cz.1 aH with aH|aH
   .exact ag j aH
   .simp at aH;subst aH;exact λaU=>u2 (aa.2 aU)
def bp{l:ay}{cs:aL}(h:∀c∈cs,uD l c)(ao:cs.length<fM)(qL:∀c∈cs,c.length<fM):∃r,C cs l r/\(0<=r↔∃c∈cs,yn l c):=by
 obtain⟨r,I,aa⟩:=bj cs l (λr=>(0<=r↔∃c∈cs,yn l c)) (loop h ao qL cs 0 rfl (by simp));exact⟨r,aa,I⟩
end Fe
def BK.bp{l:ay}{cs:aL}(h:∀c∈cs,uD l c)(ao:cs.length<fM)(qL:∀c∈cs,c.length<fM):∃b,BK.C cs l b/\(b=true↔∃c∈cs,yn l c):=by
 obtain⟨r,I,aa⟩:=BK.bj cs l (λb=>(b=true↔∃c∈cs,yn l c)) (by
  obtain⟨q,b_,cM⟩:=Fe.bp h ao qL;refine⟨q,b_,?_⟩
  rw[<-cM];simp)
 exact⟨r,aa,I⟩
def Ht(a b:ew):Prop:=wB a b=0/\∀i j,0<=i/\i<a.Rows->0<=j/\j<a.Rows->oC a i j->oC b i j
def BX.bp{a b:ew}(aC:sK a)(ag:sK b):∃r,BX.C a b r/\(r=true↔Ht a b):=by
 obtain⟨r,I,aa⟩:=BX.bj a b (λr=>(r=true↔Ht a b)) (by
  refine⟨_,B1.bp aC ag,?_⟩
  split
  .rename_i aO;obtain⟨alK,XK,hr⟩:=abY aO;obtain⟨v1,v2,v3⟩:=x0.1 alK;have ch:∀c∈a.eh,uD (mK b) c:=λc ad=>⟨λao=>by have:=v3.two c ad;rw[ao]at this;simp at this,λi hi=>sF (v3.l9 c ad i hi).1 (by have:=(v3.l9 c ad i hi).2;rw[Le];omega)⟩
   obtain⟨q,b_,cM⟩:=BK.bp ch aC.1 aC.2;refine⟨_,Fl.bp ag XK,q,b_,?_⟩;have key:(∃c∈a.eh,yn (mK b) c)↔¬Ht a b:=by
    have FC:∀{i j:Int},0<=i/\i<a.Rows->0<=j/\j<a.Rows->(r7 (mK b) i=r7 (mK b) j↔oC b i j):=λhi aH=>by
     rw[acm (by rw[Le];omega) (by rw[Le];omega),aba XK (by omega) (by omega)]
    constructor
    .rintro ⟨c,ad,i,hi,Nv⟩ cQ;have h1:=v3.l9 c ad i hi;have hm:=aa8 (v3.two c ad);have hD:=v3.l9 c ad _ hm;exact Nv ((FC h1 hD).2 (cQ.2 i _ h1 hD (.inr ⟨c,ad,hi,hm⟩)))
    .intro cQ;apply cA;intro hZ;apply cQ;refine⟨aO,λi j hi aH ae=>?_⟩;rcases ae with rfl|⟨c,ad,I,aa⟩
     .exact .inl rfl
     .have e:∀k∈c,r7 (mK b) k=r7 (mK b) (c.headD 0):=λk aj=>cA λcI=>hZ ⟨c,ad,k,aj,cI⟩;exact(FC hi aH).1 ((e i I).trans (e j aa).symm)
   cases q with
   |true=>simp only[Bool.not_true,hF,false_iff];exact key.1 (cM.1 rfl)
   |false=>
    simp only[Bool.not_false,true_iff];exact cA λao=>by have:=cM.2 (key.2 ao);cases this
  .rename_i aO;simp only[hF,false_iff]
   exact λcQ=>aO cQ.1)
 exact⟨r,aa,I⟩
structure al2(x:ew)(r:ay):Prop where
 has:∀c∈x.eh,∀i∈c,∃a,a_ r i=some a
namespace agZ
end agZ
end Go.aS
namespace Go.aS
open Go.Proofs D
set_option maxRecDepth 100000
set_option maxHeartbeats 4000000
namespace B0
def B:=cv Tryz.f31
def W:=[0,1,2,3,4,5,6,10,19]
def res(r:Bool×Int):D×List D:=(.bt [dm r.1,aq r.2],[])
def C(ab:cH)(ai:bC)(r:Bool×Int):Prop:=bR env 31 [.agg [ep ab.Name,.sl (ab.bl.map dQ),.sl (ab.Rows.map gk)],.agg [cC ai.bX,cC ai.bZ]] (res r).1 (res r).2
def bj(ab:cH)(ai:bC)(J:Bool×Int->Prop)(h:∃r1:Int,xD.C ab r1/\(if r1=0 then ∃r2:Bool,BY.C ab (eZ .u32 ai.bX ai.bZ) r2/\(if r2=true then ∃bx:ew,zv.C ab ai.bX bx/\∃dv:ew,zv.C ab ai.bZ dv/\∃dw:Bool,BX.C bx dv dw/\J (dw,0)else J (false,6))else J (false,r1))):∃r,J r/\C ab ai r:=cw Tryz.f31 B W res<|b4 8 h bD λr1 _ h=>g5 4 h g4 g3 (λh=>a7 7 h) λh=>iy 10 h bD (λ_ h=>EY 8 h bD (hf:=(λ_=>LO)) λbx _ h=>b4 3 h bD (hf:=(λ_=>h3)) λdv _ h=>b4 0 h bD λdw _ h=>a7 3 h) λ_ h=>a7 7 h
end B0
namespace oc
def B:=cv Tryz.f27
def W:=[0,1,4,5,6,7,8,9,10,12,13,14,26,27,28,29,36,37,38]
def res(r:cH):D×List D:=(.agg [ep r.Name,.own (r.bl.map dQ),.own (r.Rows.map vQ)],[])
def C(ab:Int)(ai:ay)(r:cH):Prop:=bR env 27 [aq ab,.sl (ai.map bM)] (res r).1 (res r).2
def P(a:List Nat)(b:Fr)(J:cH->Prop):Prop:=ee env 27 W B a b (ec env 27 Tryz.f27 2 res J)
def aJ(ab:Int)(ai:ay)(z0:List ByteArray)(ar:Int)(J:cH->Prop):Prop:=P [1,1,0,1,0] [(0,aq ab),(1,.sl (ai.map bM)),(4,.box [ep (⟨#[]⟩:ByteArray),.own [],.own []]),(5,.box [ep (⟨#[116]⟩:ByteArray),.own (z0.map dQ),.own []]),(12,aq ab),(13,aq ar)] J
def bm(ab:Int)(ai:ay)(z0:List ByteArray)(ar:List h7)(aI:Int)(J:cH->Prop):Prop:=P [1,1,1,0,1,0] [(0,aq ab),(1,.sl (ai.map bM)),(4,.box [ep (⟨#[]⟩:ByteArray),.own [],.own []]),(5,.box [ep (⟨#[116]⟩:ByteArray),.own (z0.map dQ),.own (ar.map vQ)]),(26,.sl (ai.map bM)),(27,aq (ai.length:Int)),(28,aq aI)] J
def cd(ab:Int)(ai:ay)(z0:List ByteArray)(ar:List h7)(bA aI:Int)(z3:List dy)(z4 dg:Int)(J:cH->Prop):Prop:=P [1,1,1,0,1,0,0,1,1,0,0,1,1,0,1,0] [(0,aq ab),(1,.sl (ai.map bM)),(4,.box [ep (⟨#[]⟩:ByteArray),.own [],.own []]),(5,.box [ep (⟨#[116]⟩:ByteArray),.own (z0.map dQ),.own (ar.map vQ)]),(8,cC bA),(9,.box [aq aI,.own (z3.map ja)]),(26,.sl (ai.map bM)),(27,aq (ai.length:Int)),(28,aq z4),(36,aq ab),(37,aq dg)] J
def bE(ab:Int)(ai:ay)(z0:List ByteArray)(ar:Int)(J:cH->Prop)(h:(if ar<ab then(z0.length+1)*16<=140737488355328/\aJ ab ai (z0++[(Utf8.encode (IntKind.wrap .i32 (aV (97+ar))))]) (aV (ar+1)) J else bm ab ai z0 ([]) 0 J)):aJ ab ai z0 ar J:=b2<|bn 2 h bJ bI (λh=>nq 15 dQ z0 ([(Utf8.encode (IntKind.wrap .i32 (aV (97+ar))))]) h λh=>a1 7 h) λh=>c1 5 bM ai<|a1 2 h
def cU(ab:Int)(ai:ay)(z0:List ByteArray)(ar:List h7)(aI:Int)(J:cH->Prop)(h:(if aI<(ai.length:Int)then ∃bA,a_ ai aI=some bA/\cd ab ai z0 ar bA (aV (aI+1)) ([]) aI 0 J else J (⟨(⟨#[116]⟩:ByteArray),z0,ar⟩:cH))):bm ab ai z0 ar aI J:=b2<|bn 2 h bJ bI (λh=>eA 5 bM h λbA aB h=>a1 15 h) λh=>a7 7 h
def fp(ab:Int)(ai:ay)(z0:List ByteArray)(ar:List h7)(bA aI:Int)(z3:List dy)(z4 dg:Int)(J:cH->Prop)(h:(if dg<ab then 0<=dg/\(z3.length+1)*32<=140737488355328/\cd ab ai z0 ar bA aI (z3++[(⟨1,(aV (dW .u32 (ft .u32 bA dg) 1)),(⟨#[]⟩:ByteArray)⟩:dy)]) z4 (aV (dg+1)) J else(ar.length+1)*32<=140737488355328/\bm ab ai z0 (ar++[(⟨aI,z3⟩:h7)]) (aV (z4+1)) J)):cd ab ai z0 ar bA aI z3 z4 dg J:=b2<|bn 2 h bJ bI (λh=>h.elim λaW h=>ma 12 (p_ (t:=35) (q:=.u32) (q':=.i64) (i1:=bA) aW)<|nq 4 ja z3 ([(⟨1,(aV (dW .u32 (ft .u32 bA dg) 1)),(⟨#[]⟩:ByteArray)⟩:dy)]) h λh=>a1 7 h) λh=>nq 8 vQ ar ([(⟨aI,z3⟩:h7)]) h λh=>a1 7 h
def bj(ab:Int)(ai:ay)(J:cH->Prop)(h:aJ ab ai ([]) 0 J):∃r,J r/\C ab ai r:=cw Tryz.f27 B W res<|a1 12 h
end oc
namespace B4
def B:=cv Tryz.f38
def W:=[0,1,4]
def res(r:Bool):D×List D:=(dm r,[])
def C(ab ai:Int)(r:Bool):Prop:=bR env 38 [aq ab,cC ai] (res r).1 (res r).2
def bj(ab ai:Int)(J:Bool->Prop)(h:0<=ab/\J ((ft .u64 (IntKind.wrap .u64 ai) ab)==0)):∃r,J r/\C ab ai r:=cw Tryz.f38 B W res<|h.elim λI h=>ma 7 (p_ (t:=130) (q:=.u64) (q':=.i64) (i1:=(IntKind.wrap .u64 ai)) I)<|a7 3 h
end B4
namespace o0
def B:=cv Tryz.f11
def W:=[0,1,2,3,6,7,8,9,11,12,13,15,16,17,21,30,32,33,34,35,45,47,48,49,50,60]
def res(r:Bool×Int):D×List D:=(.bt [dm r.1,aq r.2],[])
def C(ab:cH)(ai:List bC)(ax:List br)(r:Bool×Int):Prop:=bR env 11 [.agg [ep ab.Name,.sl (ab.bl.map dQ),.sl (ab.Rows.map gk)],.sl (ai.map c6),.sl (ax.map cZ)] (res r).1 (res r).2
def P(a:List Nat)(b:Fr)(J:Bool×Int->Prop):Prop:=ee env 11 W B a b (ec env 11 Tryz.f11 3 res J)
def aJ(ab:cH)(ai:List bC)(ax:List br)(z0:Int)(J:Bool×Int->Prop):Prop:=P [1,1,1,0,1,0] [(0,.agg [ep ab.Name,.sl (ab.bl.map dQ),.sl (ab.Rows.map gk)]),(1,.sl (ai.map c6)),(2,.sl (ax.map cZ)),(3,.box [ep ab.Name,.sl (ab.bl.map dQ),.sl (ab.Rows.map gk)]),(32,.sl (ai.map c6)),(33,aq (ai.length:Int)),(34,aq z0)] J
def bm(ab:cH)(ax:List br)(z0:Int)(J:Bool×Int->Prop):Prop:=P [1,1,1,1,0,1,0] [(0,.agg [ep ab.Name,.sl (ab.bl.map dQ),.sl (ab.Rows.map gk)]),(2,.sl (ax.map cZ)),(3,.box [ep ab.Name,.sl (ab.bl.map dQ),.sl (ab.Rows.map gk)]),(47,.sl (ax.map cZ)),(48,aq (ax.length:Int)),(49,aq z0)] J
def bE(ab:cH)(ai:List bC)(ax:List br)(z0:Int)(J:Bool×Int->Prop)(h:(if z0<(ai.length:Int)then ∃a3,a_ ai z0=some a3/\∃dw:Bool×Int,B0.C ab a3 dw/\(if dw.1=true then aJ ab ai ax (aV (z0+1)) J else J (false,0))else bm ab ax 0 J)):aJ ab ai ax z0 J:=b2<|bn 2 h bJ bI (λh=>eA 4 c6 h λa3 aW h=>b4 7 h bD (hf:=(λ_=>gO (mj (e_ rfl (e_ rfl jc))) rfl)) λdw _ h=>bn 7 h id iR (λh=>a1 8 h) λh=>a7 7 h) λh=>c1 5 cZ ax<|a1 2 h
def cU(ab:cH)(ax:List br)(z0:Int)(J:Bool×Int->Prop)(h:(if z0<(ax.length:Int)then ∃eQ,a_ ax z0=some eQ/\∃iX:Bool×Int,vu.C ab eQ iX/\(if iX.1=true then bm ab ax (aV (z0+1)) J else J (false,0))else J (true,0))):bm ab ax z0 J:=b2<|bn 2 h bJ bI (λh=>eA 4 cZ h λeQ gp h=>b4 7 h bD (hf:=(λ_=>gO (mj (e_ rfl (e_ rfl jc))) rfl)) λiX _ h=>bn 7 h id iR (λh=>a1 8 h) λh=>a7 7 h) λh=>a7 7 h
def bj(ab:cH)(ai:List bC)(ax:List br)(J:Bool×Int->Prop)(h:∃r1:Int,xD.C ab r1/\(if r1=0 then ∃r2:Int,mN.C (ab.bl.length:Int) ai ax r2/\(if r2=0 then aJ ab ai ax 0 J else J (false,r2))else J (false,r1))):∃r,J r/\C ab ai ax r:=cw Tryz.f11 B W res<|b4 7 h bD λr1 _ h=>g5 4 h g4 g3 (λh=>a7 7 h) λh=>c1 6 dQ ab.bl<|b4 2 h bD λr2 _ h=>g5 4 h g4 g3 (λh=>a7 7 h) λh=>c1 5 c6 ai<|a1 2 h
end o0
namespace B6
def B:=cv Tryz.f12
def W:=[0,1,2,3,4,7,8,9,10,11,12,25]
def res(r:Bool):D×List D:=(dm r,[])
def C(ab:cH)(ai:List bC)(ax:List br)(bb:br)(r:Bool):Prop:=bR env 12 [.agg [ep ab.Name,.sl (ab.bl.map dQ),.sl (ab.Rows.map gk)],.sl (ai.map c6),.sl (ax.map cZ),.agg [cC bb.bX,cC bb.bZ]] (res r).1 (res r).2
def bj(ab:cH)(ai:List bC)(ax:List br)(bb:br)(J:Bool->Prop)(h:∃r1:Bool×Int,o0.C ab ai ax r1/\(if r1.2=0 then(if r1.1=true then ∃r2:Bool×Int,vu.C ab bb r2/\(if r2.2=0 then J (not r2.1)else J false)else J false)else J false)):∃r,J r/\C ab ai ax bb r:=cw Tryz.f12 B W res<|b4 9 h bD (hf:=(λ_=>gO (mj (e_ rfl (e_ rfl jc))) rfl)) λr1 _ h=>g5 8 h g4 g3 (λh=>a7 9 h) λh=>bn 1 h id iR (λh=>b4 8 h bD (hf:=(λ_=>gO (mj (e_ rfl (e_ rfl jc))) rfl)) λr2 _ h=>bn 8 h g2 g1 (λh=>a7 6 h) λh=>a7 6 h) λh=>a7 7 h
end B6
namespace B5
def B:=cv Tryz.f26
def W:=[0,1,2,3,4,10,11,17,20,26]
def res(r:Int):D×List D:=(aq r,[])
def C(ab:Int)(ai:List bC)(ax:List br)(bb Jw r:Int):Prop:=bR env 26 [aq ab,.sl (ai.map c6),.sl (ax.map cZ),cC bb,cC Jw] (res r).1 (res r).2
def bj(ab:Int)(ai:List bC)(ax:List br)(bb Jw:Int)(J:Int->Prop)(h:∃r1:Int,mN.C ab ai ax r1/\(if r1=0 then(if 8<ab then J 3 else ∃r2:Bool,B4.C ab (eZ .u32 bb Jw) r2/\(if r2=true then J 0 else J 1))else J r1)):∃r,J r/\C ab ai ax bb Jw r:=cw Tryz.f26 B W res<|b4 7 h bD λr1 _ h=>g5 4 h g4 g3 (λh=>a7 6 h) λh=>bn 5 h bJ bI (λh=>a7 5 h) λh=>iy 8 h bD (λ_ h=>a7 7 h) λ_ h=>a7 6 h
end B5
namespace BQ
def B:=cv Tryz.f75
def W:=[0,1,4,5,7,8,9,16]
def res(r:Int):D×List D:=(aq r,[])
def C(ab:ay)(ai r:Int):Prop:=bR env 75 [.sl (ab.map bM),cC ai] (res r).1 (res r).2
def aJ(ab:ay)(ai z0:Int)(J:Int->Prop):Prop:=ee env 75 W B [1,0,1,0] [(0,.sl (ab.map bM)),(1,cC ai),(7,aq (ab.length:Int)),(8,aq z0)] (ec env 75 Tryz.f75 2 res J)
def bE(ab:ay)(ai z0:Int)(J:Int->Prop)(h:(if z0<(ab.length:Int)then ∃a2,a_ ab z0=some a2/\(if ai=a2 then J z0 else aJ ab ai (aV (z0+1)) J)else J (-1))):aJ ab ai z0 J:=b2<|bn 2 h bJ bI (λh=>eA 11 bM h λa2 aa h=>bn 1 h g2 g1 (λh=>a7 6 h) λh=>a1 7 h) λh=>a7 6 h
def bj(ab:ay)(ai:Int)(J:Int->Prop)(h:aJ ab ai 0 J):∃r,J r/\C ab ai r:=cw Tryz.f75 B W res<|c1 5 bM ab<|a1 2 h
end BQ
namespace Ja
def B:=cv Tryz.f52
def W:=[0,1,4]
def res(r:Bool):D×List D:=(dm r,[])
def C(ab:ay)(ai:Int)(r:Bool):Prop:=bR env 52 [.sl (ab.map bM),cC ai] (res r).1 (res r).2
def bj(ab:ay)(ai:Int)(J:Bool->Prop)(h:∃r1:Int,BQ.C ab ai r1/\J (decide (0<=r1))):∃r,J r/\C ab ai r:=cw Tryz.f52 B W res<|b4 6 h bD λr1 _ h=>a7 3 h
end Ja
namespace tB
def B:=cv Tryz.f51
def W:=[0,1,3,6,1000001]
def res(r:Bool×ay):D×List D:=(dm r.1,[.box [.own (r.2.map bM)]])
def C(ab:Int)(dq:ay)(r:Bool×ay):Prop:=bR env 51 [cC ab,.box [.own (dq.map bM)]] (res r).1 (res r).2
def bj(ab:Int)(dq:ay)(J:Bool×ay->Prop)(h:∃r1:Bool,Ja.C dq ab r1/\(if r1=true then J (false,dq)else(dq.length+1)*4<=140737488355328/\J (true,(dq++[ab])))):∃r,J r/\C ab dq r:=cw Tryz.f51 B W res<|iy 6 h bD (hr:=by exact(pb (qb (s:=1000001) (ps:=[(0,0)]) (l:=dq) (e:=bM) (e':=bM) (λ_=>rfl) (by kernel_rfl)) (sg qe))) (λ_ h=>a7 5 h) λ_ h=>nq 7 bM dq ([ab]) h λh=>a7 5 h
end tB
namespace Ft
def B:=cv Tryz.f28
def W:=[0,1,2,3,8,9,10,11,13,14,16,18,19,21,23,24,26,28,38,39,40,41,42,45,46,47,48,51,52,53,54,63,75,77,78,79,80,90,91,92,93,102,103,104,105,109,110,111,112,132]
def res(r:ay):D×List D:=(.own (r.map bM),[])
def C(ab:Int)(ai:List bC)(ax:List br)(bb:Int)(r:ay):Prop:=bR env 28 [aq ab,.sl (ai.map c6),.sl (ax.map cZ),cC bb] (res r).1 (res r).2
def P(a:List Nat)(b:Fr)(J:ay->Prop):Prop:=ee env 28 W B a b (ec env 28 Tryz.f28 4 res J)
def aJ(ai:List bC)(ax:List br)(z0:ay)(ar:Bool)(J:ay->Prop):Prop:=P [1,1,1,1,0,1,0] [(1,.sl (ai.map c6)),(2,.sl (ax.map cZ)),(9,.box [.own (z0.map bM)]),(10,.fn 51 [.alias 9 []]),(11,dm ar)] J
def bm(ai:List bC)(ax:List br)(z0:ay)(ar:Bool)(aI:Int)(J:ay->Prop):Prop:=P [1,1,1,1,0,1,0,0,1,0,1,0,1,0] [(1,.sl (ai.map c6)),(2,.sl (ax.map cZ)),(9,.box [.own (z0.map bM)]),(10,.fn 51 [.alias 9 []]),(11,dm ar),(39,.sl (ai.map c6)),(40,aq (ai.length:Int)),(41,aq aI)] J
def cd(ai:List bC)(ax:List br)(z0:ay)(ar:Bool)(a3:bC)(aI z3:Int)(z4 dg:Int)(J:ay->Prop):Prop:=P [1,1,1,1,0,1,0,0,1,0,1,0,1,0,0,1,1,0,0,1,1,0,1,0] [(1,.sl (ai.map c6)),(2,.sl (ax.map cZ)),(9,.box [.own (z0.map bM)]),(10,.fn 51 [.alias 9 []]),(11,dm ar),(13,.box [cC a3.bX,cC a3.bZ]),(14,cC aI),(39,.sl (ai.map c6)),(40,aq (ai.length:Int)),(41,aq z3),(45,.alias 9 [(0,0)]),(46,aq z4),(47,aq dg)] J
def fX(ai:List bC)(ax:List br)(z0:ay)(ar:Bool)(aI:Int)(J:ay->Prop):Prop:=P [1,1,1,1,0,1,0,0,1,0,1,1,1,0] [(1,.sl (ai.map c6)),(2,.sl (ax.map cZ)),(9,.box [.own (z0.map bM)]),(10,.fn 51 [.alias 9 []]),(11,dm ar),(90,.sl (ax.map cZ)),(91,aq (ax.length:Int)),(92,aq aI)] J
def h5(ai:List bC)(ax:List br)(z0:ay)(ar:Bool)(a3:bC)(aI cj:Int)(z3 z4:Int)(dg i_ iM:Int)(J:ay->Prop):Prop:=P [1,1,1,1,0,1,0,0,1,0,1,0,1,0,0,1,1,0,0,1,1,0,1,0,0,1,1,0,0,1,1,0] [(1,.sl (ai.map c6)),(2,.sl (ax.map cZ)),(9,.box [.own (z0.map bM)]),(10,.fn 51 [.alias 9 []]),(11,dm ar),(13,.box [cC a3.bX,cC a3.bZ]),(14,cC aI),(16,cC cj),(39,.sl (ai.map c6)),(40,aq (ai.length:Int)),(41,aq z3),(45,.alias 9 [(0,0)]),(46,aq z4),(47,aq dg),(51,.alias 9 [(0,0)]),(52,aq i_),(53,aq iM)] J
def Dw(ai:List bC)(ax:List br)(z0:ay)(ar:Bool)(aI:Int)(J:ay->Prop):Prop:=P [1,1,1,1,0,1,0,0,1,0,1,0,1,0,0,1,1,1] [(1,.sl (ai.map c6)),(2,.sl (ax.map cZ)),(9,.box [.own (z0.map bM)]),(10,.fn 51 [.alias 9 []]),(11,dm ar),(39,.sl (ai.map c6)),(40,aq (ai.length:Int)),(41,aq aI)] J
def js(ai:List bC)(ax:List br)(z0:ay)(ar:Int)(aI:ay)(z3 z4 dg:Int)(J:ay->Prop):Prop:=P [1,1,1,1,0,1,0,0,1,0,1,0,1,0,0,1,1,0,0,1,1,1,1,1,1,1,1,0] [(1,.sl (ai.map c6)),(2,.sl (ax.map cZ)),(9,.box [.own (z0.map bM)]),(10,.fn 51 [.alias 9 []]),(11,dm true),(14,cC ar),(19,.own (aI.map bM)),(39,.sl (ai.map c6)),(40,aq (ai.length:Int)),(41,aq z3),(77,.alias 19 []),(78,aq z4),(79,aq dg)] J
def kj(ai:List bC)(ax:List br)(z0:ay)(ar:Bool)(cX:br)(aI:Int)(z3:ay)(z4 dg:Int)(J:ay->Prop):Prop:=P [1,1,1,1,0,1,0,0,1,0,1,1,1,0,0,1,1,0,0,1,1,1,0] [(1,.sl (ai.map c6)),(2,.sl (ax.map cZ)),(9,.box [.own (z0.map bM)]),(10,.fn 51 [.alias 9 []]),(11,dm ar),(23,.box [cC cX.bX,cC cX.bZ]),(24,cC (eZ .u32 cX.bX cX.bZ)),(90,.sl (ax.map cZ)),(91,aq (ax.length:Int)),(92,aq aI),(102,.own (z3.map bM)),(103,aq z4),(104,aq dg)] J
def wO(ai:List bC)(ax:List br)(z0:ay)(ar:Bool)(a3:bC)(aI cj:Int)(z3 z4:Int)(dg i_ iM:Int)(J:ay->Prop):Prop:=P [1,1,1,1,0,1,0,0,1,0,1,0,1,0,0,1,1,0,0,1,1,0,1,0,0,1,1,0,0,1,1,0,0,1,1,1] [(1,.sl (ai.map c6)),(2,.sl (ax.map cZ)),(9,.box [.own (z0.map bM)]),(10,.fn 51 [.alias 9 []]),(11,dm ar),(13,.box [cC a3.bX,cC a3.bZ]),(14,cC aI),(16,cC cj),(39,.sl (ai.map c6)),(40,aq (ai.length:Int)),(41,aq z3),(45,.alias 9 [(0,0)]),(46,aq z4),(47,aq dg),(51,.alias 9 [(0,0)]),(52,aq i_),(53,aq iM)] J
def Hp(ai:List bC)(ax:List br)(z0:ay)(ar:Bool)(cX:br)(j3 aI:Int)(z3:ay)(z4 dg:Int)(i_:ay)(iM p2:Int)(J:ay->Prop):Prop:=P [1,1,1,1,0,1,0,0,1,0,1,1,1,0,0,1,1,0,0,1,1,1,0,0,1,1,0,0,1,1,0] [(1,.sl (ai.map c6)),(2,.sl (ax.map cZ)),(9,.box [.own (z0.map bM)]),(10,.fn 51 [.alias 9 []]),(11,dm ar),(23,.box [cC cX.bX,cC cX.bZ]),(24,cC (eZ .u32 cX.bX cX.bZ)),(26,cC j3),(90,.sl (ax.map cZ)),(91,aq (ax.length:Int)),(92,aq aI),(102,.own (z3.map bM)),(103,aq z4),(104,aq dg),(109,.own (i_.map bM)),(110,aq iM),(111,aq p2)] J
def Dv(ai:List bC)(ax:List br)(z0:ay)(ar:Bool)(cX:br)(j3 aI:Int)(z3:ay)(z4 dg:Int)(i_:ay)(iM p2:Int)(J:ay->Prop):Prop:=P [1,1,1,1,0,1,0,0,1,0,1,1,1,0,0,1,1,0,0,1,1,1,0,0,1,1,0,0,1,1,0,0,1,1,1] [(1,.sl (ai.map c6)),(2,.sl (ax.map cZ)),(9,.box [.own (z0.map bM)]),(10,.fn 51 [.alias 9 []]),(11,dm ar),(23,.box [cC cX.bX,cC cX.bZ]),(24,cC (eZ .u32 cX.bX cX.bZ)),(26,cC j3),(90,.sl (ax.map cZ)),(91,aq (ax.length:Int)),(92,aq aI),(102,.own (z3.map bM)),(103,aq z4),(104,aq dg),(109,.own (i_.map bM)),(110,aq iM),(111,aq p2)] J
def bE(ai:List bC)(ax:List br)(z0:ay)(ar:Bool)(J:ay->Prop)(h:(if ar=true then bm ai ax z0 false 0 J else J z0)):aJ ai ax z0 ar J:=b2<|bn 2 h id iR (λh=>c1 8 c6 ai<|a1 2 h) λh=>a7 7 h
def cU(ai:List bC)(ax:List br)(z0:ay)(ar:Bool)(aI:Int)(J:ay->Prop)(h:(if aI<(ai.length:Int)then ∃a3,a_ ai aI=some a3/\cd ai ax z0 ar a3 0 aI (z0.length:Int) 0 J else fX ai ax z0 ar 0 J)):bm ai ax z0 ar aI J:=b2<|bn 2 h bJ bI (λh=>eA 4 c6 h λa3 aW h=>c1 9 bM z0<|a1 2 h) λh=>c1 5 cZ ax<|a1 2 h
def fp(ai:List bC)(ax:List br)(z0:ay)(ar:Bool)(a3:bC)(aI z3:Int)(z4 dg:Int)(J:ay->Prop)(h:(if dg<z4 then ∃cj,a_ z0 dg=some cj/\h5 ai ax z0 ar a3 aI cj z3 z4 dg (z0.length:Int) 0 J else(if aI=0 then Dw ai ax z0 ar z3 J else js ai ax ([]) aI z0 z3 (z0.length:Int) 0 J))):cd ai ax z0 ar a3 aI z3 z4 dg J:=b2<|bn 2 h bJ bI (λh=>cG 4 bM h λcj c7 h=>cY 0 bM c7<|c1 4 bM z0<|a1 2 h) λh=>bn 5 h g2 g1 (λh=>a1 3 h) λh=>c1 15 bM z0<|a1 2 h
def kT(ai:List bC)(ax:List br)(z0:ay)(ar:Bool)(aI:Int)(J:ay->Prop)(h:(if aI<(ax.length:Int)then ∃cX,a_ ax aI=some cX/\z0.length*4<=140737488355328/\kj ai ax z0 ar cX aI z0 (z0.length:Int) 0 J else aJ ai ax z0 ar J)):fX ai ax z0 ar aI J:=b2<|bn 2 h bJ bI (λh=>eA 4 cZ h λcX dL h=>h.elim λjw h=>wG 14 (show bR env 53 [.sl (z0.map bM)] (.own (z0.map bM)) []from zT (k:=1) (b:=4) (e:=bM) (l:=z0) (by kernel_rfl) (λ_=>rfl) jw) (hr:=by exact(pb (qb (s:=9) (ps:=[(0,0)]) (l:=z0) (e:=bM) (e':=bM) (λ_=>rfl) (by kernel_rfl)) qe)) (hf:=(gO (g0 (e:=bM) (λ_=>rfl)) rfl))<|c1 0 bM z0<|a1 2 h) λh=>a1 3 h
def oB(ai:List bC)(ax:List br)(z0:ay)(ar:Bool)(a3:bC)(aI cj:Int)(z3 z4:Int)(dg i_ iM:Int)(J:ay->Prop)(h:(if iM<i_ then ∃j2,a_ z0 iM=some j2/\(if(dW .u32 (jF .u32 cj j2) a3.bX)=0 then wO ai ax z0 ar a3 (eZ .u32 aI (dW .u32 (jF .u32 cj j2) a3.bZ)) cj z3 z4 dg i_ iM J else wO ai ax z0 ar a3 aI cj z3 z4 dg i_ iM J)else cd ai ax z0 ar a3 aI z3 z4 (aV (dg+1)) J)):h5 ai ax z0 ar a3 aI cj z3 z4 dg i_ iM J:=b2<|bn 2 h bJ bI (λh=>cG 4 bM h λj2 oJ h=>cY 0 bM oJ<|bn 9 h g2 g1 (λh=>a1 13 h) λh=>a1 3 h) λh=>a1 7 h
def UT(ai:List bC)(ax:List br)(z0:ay)(ar:Bool)(aI:Int)(J:ay->Prop)(h:bm ai ax z0 ar (aV (aI+1)) J):Dw ai ax z0 ar aI J:=b2<|a1 4 h
def uH(ai:List bC)(ax:List br)(z0:ay)(ar:Int)(aI:ay)(z3 z4 dg:Int)(J:ay->Prop)(h:(if dg<z4 then ∃kV,a_ aI dg=some kV/\∃B_:Bool×ay,tB.C (fK .u32 kV ar) z0 B_/\js ai ax B_.2 ar aI z3 z4 (aV (dg+1)) J else Dw ai ax z0 true z3 J)):js ai ax z0 ar aI z3 z4 dg J:=b2<|bn 2 h bJ bI (λh=>cG 4 bM h λkV jv h=>cY 0 bM jv<|b4 7 h bD λB_ _ h=>a1 5 h) λh=>a1 3 h
def sR(ai:List bC)(ax:List br)(z0:ay)(ar:Bool)(cX:br)(aI:Int)(z3:ay)(z4 dg:Int)(J:ay->Prop)(h:(if dg<z4 then ∃j3,a_ z3 dg=some j3/\z0.length*4<=140737488355328/\Hp ai ax z0 ar cX j3 aI z3 z4 dg z0 (z0.length:Int) 0 J else fX ai ax z0 ar (aV (aI+1)) J)):kj ai ax z0 ar cX aI z3 z4 dg J:=b2<|bn 2 h bJ bI (λh=>cG 4 bM h λj3 AS h=>cY 0 bM AS<|h.elim λuX h=>wG 4 (show bR env 53 [.sl (z0.map bM)] (.own (z0.map bM)) []from zT (k:=1) (b:=4) (e:=bM) (l:=z0) (by kernel_rfl) (λ_=>rfl) uX) (hr:=by exact(pb (qb (s:=9) (ps:=[(0,0)]) (l:=z0) (e:=bM) (e':=bM) (λ_=>rfl) (by kernel_rfl)) qe)) (hf:=(gO (g0 (e:=bM) (λ_=>rfl)) rfl))<|c1 0 bM z0<|a1 2 h) λh=>a1 7 h
def Hu(ai:List bC)(ax:List br)(z0:ay)(ar:Bool)(a3:bC)(aI cj:Int)(z3 z4:Int)(dg i_ iM:Int)(J:ay->Prop)(h:h5 ai ax z0 ar a3 aI cj z3 z4 dg i_ (aV (iM+1)) J):wO ai ax z0 ar a3 aI cj z3 z4 dg i_ iM J:=b2<|a1 4 h
def UR(ai:List bC)(ax:List br)(z0:ay)(ar:Bool)(cX:br)(j3 aI:Int)(z3:ay)(z4 dg:Int)(i_:ay)(iM p2:Int)(J:ay->Prop)(h:(if p2<iM then ∃m4,a_ i_ p2=some m4/\(if(dW .u32 (jF .u32 j3 m4) cX.bX)=0 then ∃Fz:Bool×ay,tB.C (eZ .u32 (dW .u32 j3 (eZ .u32 cX.bX cX.bZ)) (fK .u32 m4 (eZ .u32 cX.bX cX.bZ))) z0 Fz/\(if Fz.1=true then Dv ai ax Fz.2 true cX j3 aI z3 z4 dg i_ iM p2 J else Dv ai ax Fz.2 ar cX j3 aI z3 z4 dg i_ iM p2 J)else Dv ai ax z0 ar cX j3 aI z3 z4 dg i_ iM p2 J)else kj ai ax z0 ar cX aI z3 z4 (aV (dg+1)) J)):Hp ai ax z0 ar cX j3 aI z3 z4 dg i_ iM p2 J:=b2<|bn 2 h bJ bI (λh=>cG 4 bM h λm4 s7 h=>cY 0 bM s7<|bn 9 h g2 g1 (λh=>b4 9 h bD λFz _ h=>bn 0 h id iR (λh=>a1 5 h) λh=>a1 3 h) λh=>a1 14 h) λh=>a1 7 h
def US(ai:List bC)(ax:List br)(z0:ay)(ar:Bool)(cX:br)(j3 aI:Int)(z3:ay)(z4 dg:Int)(i_:ay)(iM p2:Int)(J:ay->Prop)(h:Hp ai ax z0 ar cX j3 aI z3 z4 dg i_ iM (aV (p2+1)) J):Dv ai ax z0 ar cX j3 aI z3 z4 dg i_ iM p2 J:=b2<|a1 4 h
def bj(ab:Int)(ai:List bC)(ax:List br)(bb:Int)(J:ay->Prop)(h:0<=ab/\∃r2:Bool×ay,tB.C (fK .u32 (IntKind.wrap .u32 ((jo .u32 1 ab)-1)) bb) ([0]) r2/\aJ ai ax r2.2 true J):∃r,J r/\C ab ai ax bb r:=cw Tryz.f28 B W res<|h.elim λI h=>ma 15 (Ad (t:=35) (q:=.u32) (q':=.i64) (i1:=1) I)<|b4 3 h bD λr2 _ h=>a1 4 h
end Ft
namespace zo
def B:=cv Tryz.f9
def W:=[0,1,2,3,7,8,9,10,11,12,22,33]
def res(r:cH×Int):D×List D:=(.bt [.agg [ep r.1.Name,.own (r.1.bl.map dQ),.own (r.1.Rows.map vQ)],aq r.2],[])
def C(ab:Int)(ai:List bC)(ax:List br)(bb:br)(r:cH×Int):Prop:=bR env 9 [aq ab,.sl (ai.map c6),.sl (ax.map cZ),.agg [cC bb.bX,cC bb.bZ]] (res r).1 (res r).2
def bj(ab:Int)(ai:List bC)(ax:List br)(bb:br)(J:cH×Int->Prop)(h:∃r1:Int,B5.C ab ai ax bb.bX bb.bZ r1/\(if r1=0 then ∃r2:Bool×Int,oZ.C ab ai ax bb r2/\(if r2.1=true then J ((⟨(⟨#[]⟩:ByteArray),[],[]⟩:cH),10)else ∃bx:ay,Ft.C ab ai ax bb.bX bx/\∃dv:cH,oc.C ab bx dv/\J (dv,0))else J ((⟨(⟨#[]⟩:ByteArray),[],[]⟩:cH),r1))):∃r,J r/\C ab ai ax bb r:=cw Tryz.f9 B W res<|b4 13 h bD λr1 _ h=>g5 4 h g4 g3 (λh=>a7 8 h) λh=>b4 8 h bD (hf:=(λ_=>gO (mj (e_ rfl (e_ rfl jc))) rfl)) λr2 _ h=>bn 7 h id iR (λh=>a7 7 h) λh=>b4 10 h bD (hf:=(λ_=>gO (g0 (e:=bM) (λ_=>rfl)) rfl)) λbx _ h=>b4 0 h bD (hr:=by exact(sg (pb (qb (s:=41) (ps:=[]) (l:=bx) (e:=bM) (e':=bM) (λ_=>rfl) (by kernel_rfl)) qe))) (hf:=(λ_=>gO (z2 (e_ rfl (e_ (g0 (e:=dQ) (λ_=>rfl)) (e_ (g0 (e:=vQ) (λ_=>(e_ rfl (e_ (g0 (e:=ja) (λ_=>rfl)) jc)))) jc)))) rfl)) λdv _ h=>a7 3 h
end zo
namespace vz
def res(r:Bool):D×List D:=(dm r,[])
def C  (r:Bool):Prop:=bR env 5 [] (res r).1 (res r).2
end vz
end Go.aS
namespace Go.aS
set_option maxRecDepth 1000000
def vz.run:gR env 400 5 []=some (.lit (.bool true),[]):=by kernel_rfl
def vz.bp:vz.C true:=bR.of vz.run
end Go.aS
end
