/- No conditions. -/
import Derived.Test.YtbmbbljdpnpmeaaGreatDoorOwn32
import Derived.Test.YtbmbbljdpnpmeaaGreatDoorBase2
set_option linter.all false
namespace Go.Own
open D
def Aoa:Enc drossref09_Deps:=fun x=>[.lit (.int .u8 x.N),.sl (x.L.map Aa6)]
def Aey:Enc drossref13_Mixed:=fun x=>[.lit (.int .u8 x.D.N),.sl (x.D.L.map Aa6),.sl (x.M.map Aa6)]
structure TF (P:Program):Prop where
 g26:isAggT P 26=true
 g28:isAggT P 28=true
 s24:Akr P 24=some [5,22]
 s26:Akr P 26=some [24,22]
 s28:Akr P 28=some [5,5]
 u22:P.underlying 22=some (.slice 28)
 u5:P.underlying 5=some (.int .u8)
theorem tf:TF env.P:=⟨by kernel_rfl,by kernel_rfl,by kernel_rfl,by kernel_rfl,by kernel_rfl,by kernel_rfl,by kernel_rfl⟩
def Aec (x:drossref09_Dep):Prop:=(okI .u8) x.L/\(okI .u8) x.R
theorem Afk {P:Program} (F:TF P) (k:Nat):Dec (Ty P (k+2) 28) Aec Aa6:=fun ds h=>by
 have h:=Apo (k:=k+1) F.s28 h;simp only [TyTs] at h;obtain ⟨a0,_,rfl,h0,a1,_,rfl,h1,rfl⟩:=h;obtain ⟨x0,o0,rfl⟩:=(Auh (k:=(k+0)) F.u5) a0 h0;obtain ⟨x1,o1,rfl⟩:=(Auh (k:=(k+0)) F.u5) a1 h1;exact ⟨⟨x0,x1⟩,⟨o0,o1⟩,rfl⟩
def Aj7 (x:drossref09_Deps):Prop:=(okI .u8) x.N/\(okL Aec) x.L
theorem Ao6 {P:Program} (F:TF P) (k:Nat):Dec (Ty P (k+4) 24) Aj7 Aoa:=fun ds h=>by
 have h:=Apo (k:=k+3) F.s24 h;simp only [TyTs] at h;obtain ⟨a0,_,rfl,h0,a1,_,rfl,h1,rfl⟩:=h;obtain ⟨x0,o0,rfl⟩:=(Auh (k:=(k+2)) F.u5) a0 h0;obtain ⟨x1,o1,rfl⟩:=(Avn (k:=(k+0)+2) F.u22 (Afk F (k+0))) a1 h1;exact ⟨⟨x0,x1⟩,⟨o0,o1⟩,rfl⟩
def Ai8 (x:drossref13_Mixed):Prop:=Aj7 x.D/\(okL Aec) x.M
theorem An1 {P:Program} (F:TF P) (k:Nat):Dec (Ty P (k+5) 26) Ai8 Aey:=fun ds h=>by
 have h:=Apo (k:=k+4) F.s26 h;simp only [TyTs] at h;obtain ⟨a0,_,rfl,h0,a1,_,rfl,h1,rfl⟩:=h;obtain ⟨x0,o0,rfl⟩:=(Ao6 F (k+0)) a0 h0;obtain ⟨x1,o1,rfl⟩:=(Avn (k:=(k+1)+2) F.u22 (Afk F (k+1))) a1 h1;exact ⟨⟨x0,x1⟩,⟨o0,o1⟩,rfl⟩
theorem Alp {P:Program} (F:TF P) {xs:List D} (hx:Ams P 5 [26,28] xs):∃ x0:drossref13_Mixed,∃ x1:drossref09_Dep,Ai8 x0/\Aec x1/\xs=[.agg (Aey x0),.agg (Aa6 x1)]:=by
 simp only [Ams] at hx;obtain ⟨d0,_,rfl,h0,d1,_,rfl,h1,rfl⟩:=hx;obtain ⟨c0,rfl,g0⟩:=Bbq F.g26 h0;obtain ⟨x0,o0,rfl⟩:=(An1 F 0) c0 g0;obtain ⟨c1,rfl,g1⟩:=Bbq F.g28 h1;obtain ⟨x1,o1,rfl⟩:=(Afk F 3) c1 g1;exact ⟨x0,x1,o0,o1,rfl⟩
abbrev Ao7:Nat:=3
abbrev Ao8:Nat:=5
abbrev Ao9:List Nat:=[26,28]
end Go.Own
