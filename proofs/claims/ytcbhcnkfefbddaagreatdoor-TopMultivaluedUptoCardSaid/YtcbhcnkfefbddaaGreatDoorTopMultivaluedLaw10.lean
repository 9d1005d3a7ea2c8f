/- What the functions answer. No conditions. -/
import Derived.Test.YtcbhcnkfefbddaaGreatDoorTopMultivaluedLaw9
set_option linter.all false
namespace Go.aS
open Go.Proofs D
set_option maxRecDepth 100000
set_option maxHeartbeats 4000000
namespace HM
noncomputable def B:=cv Tryz.f3
def W:=[0,1,2,3,4,5,6,7,8,9,10,11,12,13,14,15,16,17,18,19,36,70,79]
def res(r:Bool):D×List D:=(dm r,[])
def C(ab:uS)(ai:jj)(r:Bool):Prop:=bR env 3 [.agg [.lit (.int .u8 ab.D.N),.sl (ab.D.L.map jV),.sl (ab.M.map jV)],.agg [.lit (.int .u8 ai.L),.lit (.int .u8 ai.R)]] (res r).1 (res r).2
def aJ  (J:Bool->Prop):Prop:=ee env 3 W B [1,1,0,1,0,0] [] (ec env 3 Tryz.f3 2 res J)
def bE  (J:Bool->Prop) (h:∃vE:Bool,vz.C  vE/\J vE):aJ  J:=b2<|b4 1 h bD λvE _ h=>a7 2 h
def bj(ab:uS)(ai:jj)(J:Bool->Prop)(h:∃r1:Int×List bC×List br×Bool,B3.C ab r1/\∃r2:Bool,vz.C  r2/\(if r2=true then(if r1.2.2.2=true then(if 5<r1.1 then aJ  J else ∃bx:List br,sj.C r1.1 ([ai]) bx/\∃a4,a_ bx 0=some a4/\∃nu:Bool×Int,oZ.C r1.1 r1.2.1 r1.2.2.1 a4 nu/\∃sq:Bool×Int,sk.C r1.1 r1.2.1 r1.2.2.1 a4 sq/\(if nu.2=0 then(if sq.2=0 then(if nu.1=sq.1 then ∃iX:cH×Int,zo.C r1.1 r1.2.1 r1.2.2.1 a4 iX/\(if nu.1=true then J (iX.2==10)else ∃nv:Bool×Int,vu.C iX.1 a4 nv/\∃jQ:Bool×Int,o0.C iX.1 r1.2.1 r1.2.2.1 jQ/\(if iX.2=0 then(if nv.2=0 then(if jQ.2=0 then(if nv.1=true then J false else(if jQ.1=true then ∃o1:Bool,B6.C iX.1 r1.2.1 r1.2.2.1 a4 o1/\J o1 else J false))else J false)else J false)else J false))else J false)else J false)else J false))else aJ  J)else aJ  J)):∃r,J r/\C ab ai r:=cw Tryz.f3 B W res<|b4 7 h bD (hf:=(λ_=>h3)) λr1 _ h=>iy 11 h bD (λ_ h=>bn 2 h id iR (λh=>bn 4 h bJ bI (λh=>a1 3 h) λh=>b4 8 h bD (hr:=by exact(sg (pb (qb (s:=40) (ps:=[]) (l:=[ai]) (e:=jV) (e':=jV) (λ_=>rfl) (by kernel_rfl)) qe))) (hf:=(λ_=>gO (g0 (e:=cZ) (λ_=>rfl)) rfl)) λbx _ h=>cG 0 cZ h λa4 bO h=>fe 0 (zL (t:=37) (x:=(.tmp 42)) (s:=41) (ps:=[]) (n:=((0:Int).toNat)) (c:=0) (e:=cZ) (l:=bx) (a:=a4) (d:=.agg [cC a4.bX,cC a4.bZ]) (by kernel_rfl) (by kernel_rfl) (by kernel_rfl) (by kernel_rfl) (hd bO).2 (by kernel_rfl)) <|
 b4 8 h bD (hf:=(λ_=>gO (mj (e_ rfl (e_ rfl jc))) rfl)) λnu _ h=>b4 11 h bD (hf:=(λ_=>gO (mj (e_ rfl (e_ rfl jc))) rfl)) λsq _ h=>g5 8 h g4 g3 (λh=>a7 14 h) λh=>g5 2 h g4 g3 (λh=>a7 11 h) λh=>g5 4 h aem ael (λh=>a7 6 h) λh=>Hh 9 h bD (λ(iX:cH×Int)=>ab3 rfl (vY (Z2 (vY rfl (vY (o9 (e:=dQ) (e':=dQ) (λ_=>rfl) iX.1.bl) (vY (o9 (e:=vQ) (e':=gk) (λx=>(vY rfl (vY (o9 (e:=ja) (e':=ja) (λ_=>rfl) x.di) GN))) iX.1.Rows) GN)))) (vY rfl GN))) (hf:=(λ_=>gO (mj (e_ (z2 (e_ rfl (e_ (g0 (e:=dQ) (λ_=>rfl)) (e_ (g0 (e:=vQ) (λ_=>(e_ rfl (e_ (g0 (e:=ja) (λ_=>rfl)) jc)))) jc)))) (e_ rfl jc))) rfl)) λiX _ h=>bn 8 h id iR (λh=>a7 7 h) λh=>b4 6 h bD (hf:=(λ_=>gO (mj (e_ rfl (e_ rfl jc))) rfl)) λnv _ h=>b4 10 h bD (hf:=(λ_=>gO (mj (e_ rfl (e_ rfl jc))) rfl)) λjQ _ h=>bn 8 h g2 g1 (λh=>bn 2 h g2 g1 (λh=>bn 3 h g2 g1 (λh=>bn 2 h id iR (λh=>a7 14 h) λh=>bn 3 h id iR (λh=>b4 6 h bD λo1 _ h=>
 a7 3 h) λh=>a7 10 h) λh=>a7 17 h) λh=>a7 21 h) λh=>a7 24 h) λh=>a1 8 h) λ_ h=>a1 11 h
end HM
end Go.aS
