/- What the functions answer. No conditions. -/
import Derived.Test.YtcbhcnkfefbddaaGreatDoorOwn32
import Derived.Test.YtcbhcnkfefbddaaGreatDoorBase2
set_option linter.all false
namespace Go.aS
open D
def Yi:dE AM:=λx=>[.lit (.int .u8 x.N),.sl (x.L.map jV)]
def JB:dE uS:=λx=>[.lit (.int .u8 x.D.N),.sl (x.D.L.map jV),.sl (x.M.map jV)]
structure Dz(P:Program):Prop where
 ahD:h0 P 26=true
 ahE:h0 P 28=true
 alm:C2 P 24=some [5,22]
 aln:C2 P 26=some [24,22]
 alo:C2 P 28=some [5,5]
 XG:P.underlying 22=some (.slice 28)
 FE:P.underlying 5=some (.int .u8)
def alD:Dz env.P:=⟨by kernel_rfl,by kernel_rfl,by kernel_rfl,by kernel_rfl,by kernel_rfl,by kernel_rfl,by kernel_rfl⟩
def FK(x:jj):Prop:=(BB .u8) x.L/\(BB .u8) x.R
def JC{P:Program}(F:Dz P)(k:Nat):yq (jE P (k+2) 28) FK jV:=λaz h=>by
 have h:=KS (k:=k+1) F.alo h;simp only[AD]at h;obtain⟨a0,_,rfl,aO,a2,_,rfl,I,rfl⟩:=h;obtain⟨ab,sc,rfl⟩:=(LG (k:=(k+0)) F.FE) a0 aO;obtain⟨ai,sd,rfl⟩:=(LG (k:=(k+0)) F.FE) a2 I;exact⟨⟨ab,ai⟩,⟨sc,sd⟩,rfl⟩
def P9(x:AM):Prop:=(BB .u8) x.N/\(Pl FK) x.L
def Yh{P:Program}(F:Dz P)(k:Nat):yq (jE P (k+4) 24) P9 Yi:=λaz h=>by
 have h:=KS (k:=k+3) F.alm h;simp only[AD]at h;obtain⟨a0,_,rfl,aO,a2,_,rfl,I,rfl⟩:=h;obtain⟨ab,sc,rfl⟩:=(LG (k:=(k+2)) F.FE) a0 aO;obtain⟨ai,sd,rfl⟩:=(Sa (k:=(k+0)+2) F.XG (JC F (k+0))) a2 I;exact⟨⟨ab,ai⟩,⟨sc,sd⟩,rfl⟩
def P8(x:uS):Prop:=P9 x.D/\(Pl FK) x.M
def Yg{P:Program}(F:Dz P)(k:Nat):yq (jE P (k+5) 26) P8 JB:=λaz h=>by
 have h:=KS (k:=k+4) F.aln h;simp only[AD]at h;obtain⟨a0,_,rfl,aO,a2,_,rfl,I,rfl⟩:=h;obtain⟨ab,sc,rfl⟩:=(Yh F (k+0)) a0 aO;obtain⟨ai,sd,rfl⟩:=(Sa (k:=(k+1)+2) F.XG (JC F (k+1))) a2 I;exact⟨⟨ab,ai⟩,⟨sc,sd⟩,rfl⟩
def Yc{P:Program}(F:Dz P){xs:List D}(U:yg P 5 [26,28] xs):∃ab:uS,∃ai:jj,P8 ab/\FK ai/\xs=[.agg (JB ab),.agg (jV ai)]:=by
 simp only[yg]at U;obtain⟨d0,_,rfl,aO,d1,_,rfl,I,rfl⟩:=U;obtain⟨wU,rfl,yG⟩:=T5 F.ahD aO;obtain⟨ab,sc,rfl⟩:=(Yg F 0) wU yG;obtain⟨cF,rfl,c5⟩:=T5 F.ahE I;obtain⟨ai,sd,rfl⟩:=(JC F 3) cF c5;exact⟨ab,ai,sc,sd,rfl⟩
abbrev Yd:Nat:=3
abbrev Ye:Nat:=5
abbrev Yf:List Nat:=[26,28]
end Go.aS
