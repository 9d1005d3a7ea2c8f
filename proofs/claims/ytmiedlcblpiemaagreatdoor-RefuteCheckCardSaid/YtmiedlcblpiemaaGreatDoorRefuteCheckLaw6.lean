/- What the functions answer. No conditions. -/
import Derived.Test.YtmiedlcblpiemaaGreatDoorOwn35
import Derived.Test.YtmiedlcblpiemaaGreatDoorBase2
set_option linter.all false
namespace Go.Own
open D
def Aur:Enc api_Table:=fun x=>[.lit (.string x.Name),.sl (x.Attrs.map eS),.sl (x.Rows.map Aa1)]
def Aeb:Enc drosslaw20_Claim:=fun x=>[.lit (.string x.T.Name),.sl (x.T.Attrs.map eS),.sl (x.T.Rows.map Aa1),.sl (x.FDs.map Aa5),.sl (x.MVDs.map Aa6),.lit (.int .u32 x.Goal.Lhs),.lit (.int .u32 x.Goal.Rhs)]
structure TF (P:Program):Prop where
 g56:isAggT P 56=true
 s106:Afc P 106=some [3,2,9]
 s40:Afc P 40=some [9,37,38]
 s45:Afc P 45=some [34,34]
 s54:Afc P 54=some [34,34]
 s56:Afc P 56=some [40,28,29,54]
 s81:Afc P 81=some [2,79]
 u2:P.underlying 2=some (.int .i64)
 u28:P.underlying 28=some (.slice 45)
 u29:P.underlying 29=some (.slice 54)
 u3:P.underlying 3=some (.int .i64)
 u34:P.underlying 34=some (.int .u32)
 u37:P.underlying 37=some (.slice 9)
 u38:P.underlying 38=some (.slice 81)
 u79:P.underlying 79=some (.slice 106)
 u9:P.underlying 9=some .string
theorem tf:TF env.P:=⟨by kernel_rfl,by kernel_rfl,by kernel_rfl,by kernel_rfl,by kernel_rfl,by kernel_rfl,by kernel_rfl,by kernel_rfl,by kernel_rfl,by kernel_rfl,by kernel_rfl,by kernel_rfl,by kernel_rfl,by kernel_rfl,by kernel_rfl,by kernel_rfl⟩
def Anj (x:api_Value):Prop:=(okI .i64) x.Kind/\(okI .i64) x.Num/\Av5 x.Str
theorem Auq {P:Program} (F:TF P) (k:Nat):Dec (Ty P (k+2) 106) Anj Aa2:=fun ds h=>by
 have h:=Agj (k:=k+1) F.s106 h;simp only [TyTs] at h;obtain ⟨a0,_,rfl,h0,a1,_,rfl,h1,a2,_,rfl,h2,rfl⟩:=h;obtain ⟨x0,o0,rfl⟩:=(Ahc (k:=(k+0)) F.u3) a0 h0;obtain ⟨x1,o1,rfl⟩:=(Ahc (k:=(k+0)) F.u2) a1 h1;obtain ⟨x2,o2,rfl⟩:=(Asd (k:=(k+0)) F.u9) a2 h2;exact ⟨⟨x0,x1,x2⟩,⟨o0,o1,o2⟩,rfl⟩
def Arj (x:api_Row):Prop:=(okI .i64) x.ID/\(okL Anj) x.Values
theorem Axo {P:Program} (F:TF P) (k:Nat):Dec (Ty P (k+4) 81) Arj Aa1:=fun ds h=>by
 have h:=Agj (k:=k+3) F.s81 h;simp only [TyTs] at h;obtain ⟨a0,_,rfl,h0,a1,_,rfl,h1,rfl⟩:=h;obtain ⟨x0,o0,rfl⟩:=(Ahc (k:=(k+2)) F.u2) a0 h0;obtain ⟨x1,o1,rfl⟩:=(Ai5 (k:=(k+0)+2) F.u79 (Auq F (k+0))) a1 h1;exact ⟨⟨x0,x1⟩,⟨o0,o1⟩,rfl⟩
def Ajf (x:api_Table):Prop:=Av5 x.Name/\(okL Av5) x.Attrs/\(okL Arj) x.Rows
theorem Aup {P:Program} (F:TF P) (k:Nat):Dec (Ty P (k+6) 40) Ajf Aur:=fun ds h=>by
 have h:=Agj (k:=k+5) F.s40 h;simp only [TyTs] at h;obtain ⟨a0,_,rfl,h0,a1,_,rfl,h1,a2,_,rfl,h2,rfl⟩:=h;obtain ⟨x0,o0,rfl⟩:=(Asd (k:=(k+4)) F.u9) a0 h0;obtain ⟨x1,o1,rfl⟩:=(Ai5 (k:=(k+3)+1) F.u37 (Asd (k:=(k+3)) F.u9)) a1 h1;obtain ⟨x2,o2,rfl⟩:=(Ai5 (k:=(k+0)+4) F.u38 (Axo F (k+0))) a2 h2;exact ⟨⟨x0,x1,x2⟩,⟨o0,o1,o2⟩,rfl⟩
def Aud (x:api_FD):Prop:=(okI .u32) x.Lhs/\(okI .u32) x.Rhs
theorem Az8 {P:Program} (F:TF P) (k:Nat):Dec (Ty P (k+2) 45) Aud Aa5:=fun ds h=>by
 have h:=Agj (k:=k+1) F.s45 h;simp only [TyTs] at h;obtain ⟨a0,_,rfl,h0,a1,_,rfl,h1,rfl⟩:=h;obtain ⟨x0,o0,rfl⟩:=(Ahc (k:=(k+0)) F.u34) a0 h0;obtain ⟨x1,o1,rfl⟩:=(Ahc (k:=(k+0)) F.u34) a1 h1;exact ⟨⟨x0,x1⟩,⟨o0,o1⟩,rfl⟩
def Am5 (x:api_MVD):Prop:=(okI .u32) x.Lhs/\(okI .u32) x.Rhs
theorem Aov {P:Program} (F:TF P) (k:Nat):Dec (Ty P (k+2) 54) Am5 Aa6:=fun ds h=>by
 have h:=Agj (k:=k+1) F.s54 h;simp only [TyTs] at h;obtain ⟨a0,_,rfl,h0,a1,_,rfl,h1,rfl⟩:=h;obtain ⟨x0,o0,rfl⟩:=(Ahc (k:=(k+0)) F.u34) a0 h0;obtain ⟨x1,o1,rfl⟩:=(Ahc (k:=(k+0)) F.u34) a1 h1;exact ⟨⟨x0,x1⟩,⟨o0,o1⟩,rfl⟩
def Aeq (x:drosslaw20_Claim):Prop:=Ajf x.T/\(okL Aud) x.FDs/\(okL Am5) x.MVDs/\Am5 x.Goal
theorem Als {P:Program} (F:TF P) (k:Nat):Dec (Ty P (k+7) 56) Aeq Aeb:=fun ds h=>by
 have h:=Agj (k:=k+6) F.s56 h;simp only [TyTs] at h;obtain ⟨a0,_,rfl,h0,a1,_,rfl,h1,a2,_,rfl,h2,a3,_,rfl,h3,rfl⟩:=h;obtain ⟨x0,o0,rfl⟩:=(Aup F (k+0)) a0 h0;obtain ⟨x1,o1,rfl⟩:=(Ai5 (k:=(k+3)+2) F.u28 (Az8 F (k+3))) a1 h1;obtain ⟨x2,o2,rfl⟩:=(Ai5 (k:=(k+3)+2) F.u29 (Aov F (k+3))) a2 h2;obtain ⟨x3,o3,rfl⟩:=(Aov F (k+4)) a3 h3;exact ⟨⟨x0,x1,x2,x3⟩,⟨o0,o1,o2,o3⟩,rfl⟩
theorem Ai6 {P:Program} (F:TF P) {xs:List D} (hx:Ajv P 7 [56] xs):∃ x0:drosslaw20_Claim,Aeq x0/\xs=[.agg (Aeb x0)]:=by
 simp only [Ajv] at hx;obtain ⟨d0,_,rfl,h0,rfl⟩:=hx;obtain ⟨c0,rfl,g0⟩:=Bh9 F.g56 h0;obtain ⟨x0,o0,rfl⟩:=(Als F 0) c0 g0;exact ⟨x0,o0,rfl⟩
abbrev Aj1:Nat:=5
abbrev Aj2:Nat:=7
abbrev Aj3:List Nat:=[56]
theorem Aik (h:∀ x0:drosslaw20_Claim,Aeq x0->Ret env 5 [.agg (Aeb x0)] (.lit (.bool true)) []) {xs:List D} (hx:Ajv env.P 7 [56] xs):Ret env 5 xs (.lit (.bool true)) []:=by
 obtain ⟨x0,o0,e⟩:=Ai6 (P:=env.P) tf hx;rw [e];exact h x0 o0
end Go.Own
