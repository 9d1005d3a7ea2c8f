/- What the functions answer. No conditions. -/
import Derived.Test.YtmiedlcblpiemaaGreatDoorOwn32
import Derived.Test.YtmiedlcblpiemaaGreatDoorBase2
set_option linter.all false
namespace Go.Own
open D
def Ap5:Enc drossref09_Deps:=fun x=>[.lit (.int .u8 x.N),.sl (x.L.map Aac)]
def Afg:Enc drossref13_Mixed:=fun x=>[.lit (.int .u8 x.D.N),.sl (x.D.L.map Aac),.sl (x.M.map Aac)]
def Apj:Enc (Int×Int):=fun x=>[.lit (.int .u8 x.1),.lit (.int .u8 x.2)]
structure TF(P:Program):Prop where
 a27:arrayT P 27=some (2,5)
 g26:isAggT P 26=true
 g27:isAggT P 27=true
 s142:Alj P 142=some [5,5]
 s24:Alj P 24=some [5,22]
 s26:Alj P 26=some [24,22]
 u22:P.underlying 22=some (.slice 142)
 u5:P.underlying 5=some (.int .u8)
def tf:TF env.P:=⟨by kernel_rfl,by kernel_rfl,by kernel_rfl,by kernel_rfl,by kernel_rfl,by kernel_rfl,by kernel_rfl,by kernel_rfl⟩
def Ah2(x:drossref09_Dep):Prop:=(okI .u8) x.L/\(okI .u8) x.R
def Ajo{P:Program}(F:TF P)(k:Nat):Dec (Ty P (k+2) 142) Ah2 Aac:=fun ds h=>by
 have h:=Aql (k:=k+1) F.s142 h;simp only[TyTs]at h;obtain⟨a0,_,rfl,h0,a1,_,rfl,h1,rfl⟩:=h;obtain⟨x0,o0,rfl⟩:=(Amy (k:=(k+0)) F.u5) a0 h0;obtain⟨x1,o1,rfl⟩:=(Amy (k:=(k+0)) F.u5) a1 h1;exact⟨⟨x0,x1⟩,⟨o0,o1⟩,rfl⟩
def Ajt(x:drossref09_Deps):Prop:=(okI .u8) x.N/\(okL Ah2) x.L
def Ap4{P:Program}(F:TF P)(k:Nat):Dec (Ty P (k+4) 24) Ajt Ap5:=fun ds h=>by
 have h:=Aql (k:=k+3) F.s24 h;simp only[TyTs]at h;obtain⟨a0,_,rfl,h0,a1,_,rfl,h1,rfl⟩:=h;obtain⟨x0,o0,rfl⟩:=(Amy (k:=(k+2)) F.u5) a0 h0;obtain⟨x1,o1,rfl⟩:=(Awq (k:=(k+0)+2) F.u22 (Ajo F (k+0))) a1 h1;exact⟨⟨x0,x1⟩,⟨o0,o1⟩,rfl⟩
def Air(x:drossref13_Mixed):Prop:=Ajt x.D/\(okL Ah2) x.M
def Any{P:Program}(F:TF P)(k:Nat):Dec (Ty P (k+5) 26) Air Afg:=fun ds h=>by
 have h:=Aql (k:=k+4) F.s26 h;simp only[TyTs]at h;obtain⟨a0,_,rfl,h0,a1,_,rfl,h1,rfl⟩:=h;obtain⟨x0,o0,rfl⟩:=(Ap4 F (k+0)) a0 h0;obtain⟨x1,o1,rfl⟩:=(Awq (k:=(k+1)+2) F.u22 (Ajo F (k+1))) a1 h1;exact⟨⟨x0,x1⟩,⟨o0,o1⟩,rfl⟩
def Aum(x:(Int×Int)):Prop:=(okI .u8) x.1/\(okI .u8) x.2
def Bbk{P:Program}(F:TF P)(k:Nat):Dec (Ty P (k+2) 27) Aum Apj:=fun ds h=>by
 obtain⟨ps,rfl,hl,hp⟩:=Biz (k:=k+1) F.a27 h
 match ps,hl,hp with
 |[a0,a1],_,hp=>
 have h0:=hp a0 (by simp);have h1:=hp a1 (by simp);obtain⟨x0,o0,rfl⟩:=(Amy (k:=(k+0)) F.u5) a0 h0;obtain⟨x1,o1,rfl⟩:=(Amy (k:=(k+0)) F.u5) a1 h1;exact⟨⟨x0,x1⟩,⟨o0,o1⟩,rfl⟩
def Ak7{P:Program}(F:TF P){xs:List D}(hx:Anp P 5 [26,27] xs):∃x0:drossref13_Mixed,∃x1:(Int×Int),Air x0/\Aum x1/\xs=[.agg (Afg x0),.agg (Apj x1)]:=by
 simp only[Anp]at hx;obtain⟨d0,_,rfl,h0,d1,_,rfl,h1,rfl⟩:=hx;obtain⟨c0,rfl,g0⟩:=Bcv F.g26 h0;obtain⟨x0,o0,rfl⟩:=(Any F 0) c0 g0;obtain⟨c1,rfl,g1⟩:=Bcv F.g27 h1;obtain⟨x1,o1,rfl⟩:=(Bbk F 3) c1 g1;exact⟨x0,x1,o0,o1,rfl⟩
abbrev Amk:Nat:=6
abbrev Aml:Nat:=5
abbrev Amm:List Nat:=[26,27]
end Go.Own
