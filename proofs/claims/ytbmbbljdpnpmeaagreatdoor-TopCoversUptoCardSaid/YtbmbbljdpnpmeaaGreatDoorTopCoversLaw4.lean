/- No conditions. -/
import Derived.Test.YtbmbbljdpnpmeaaGreatDoorOwn31
import Derived.Test.YtbmbbljdpnpmeaaGreatDoorBase2
set_option linter.all false
namespace Go.Own
open D
def Af3:Enc drossref09_Deps:=fun x=>[.lit (.int .u8 x.N),.sl (x.L.map Ab0)]
structure TF (P:Program):Prop where
 g24:isAggT P 24=true
 s24:An8 P 24=some [5,22]
 s28:An8 P 28=some [5,5]
 u22:P.underlying 22=some (.slice 28)
 u5:P.underlying 5=some (.int .u8)
theorem tf:TF env.P:=⟨by kernel_rfl,by kernel_rfl,by kernel_rfl,by kernel_rfl,by kernel_rfl⟩
def Aj2 (x:drossref09_Dep):Prop:=(okI .u8) x.L/\(okI .u8) x.R
theorem Ao7 {P:Program} (F:TF P) (k:Nat):Dec (Ty P (k+2) 28) Aj2 Ab0:=fun ds h=>by
 have h:=Avs (k:=k+1) F.s28 h;simp only [TyTs] at h;obtain ⟨a0,_,rfl,h0,a1,_,rfl,h1,rfl⟩:=h;obtain ⟨x0,o0,rfl⟩:=(Atj (k:=(k+0)) F.u5) a0 h0;obtain ⟨x1,o1,rfl⟩:=(Atj (k:=(k+0)) F.u5) a1 h1;exact ⟨⟨x0,x1⟩,⟨o0,o1⟩,rfl⟩
def Ais (x:drossref09_Deps):Prop:=(okI .u8) x.N/\(okL Aj2) x.L
theorem Anv {P:Program} (F:TF P) (k:Nat):Dec (Ty P (k+4) 24) Ais Af3:=fun ds h=>by
 have h:=Avs (k:=k+3) F.s24 h;simp only [TyTs] at h;obtain ⟨a0,_,rfl,h0,a1,_,rfl,h1,rfl⟩:=h;obtain ⟨x0,o0,rfl⟩:=(Atj (k:=(k+2)) F.u5) a0 h0;obtain ⟨x1,o1,rfl⟩:=(Bd4 (k:=(k+0)+2) F.u22 (Ao7 F (k+0))) a1 h1;exact ⟨⟨x0,x1⟩,⟨o0,o1⟩,rfl⟩
theorem Akk {P:Program} (F:TF P) {xs:List D} (hx:Ame P 4 [24] xs):∃ x0:drossref09_Deps,Ais x0/\xs=[.agg (Af3 x0)]:=by
 simp only [Ame] at hx;obtain ⟨d0,_,rfl,h0,rfl⟩:=hx;obtain ⟨c0,rfl,g0⟩:=Bk2 F.g24 h0;obtain ⟨x0,o0,rfl⟩:=(Anv F 0) c0 g0;exact ⟨x0,o0,rfl⟩
abbrev Aml:Nat:=4
abbrev Amm:Nat:=4
abbrev Amn:List Nat:=[24]
end Go.Own
