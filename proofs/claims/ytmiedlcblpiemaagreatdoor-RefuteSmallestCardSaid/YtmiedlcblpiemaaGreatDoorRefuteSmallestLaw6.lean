/- What the functions answer. No conditions. -/
import Derived.Test.YtmiedlcblpiemaaGreatDoorOwn32
import Derived.Test.YtmiedlcblpiemaaGreatDoorBase2
set_option linter.all false
namespace Go.Own
open D
def Awc:Enc api_Table:=fun x=>[.lit (.string x.Name),.sl (x.Attrs.map eS),.sl (x.Rows.map Aa0)]
def Aer:Enc drosslaw20_Claim:=fun x=>[.lit (.string x.T.Name),.sl (x.T.Attrs.map eS),.sl (x.T.Rows.map Aa0),.sl (x.FDs.map Aa6),.sl (x.MVDs.map Aa5),.lit (.int .u32 x.Goal.Lhs),.lit (.int .u32 x.Goal.Rhs)]
structure TF(P:Program):Prop where
 g56:isAggT P 56=true
 s106:Aft P 106=some [3,2,9]
 s40:Aft P 40=some [9,37,38]
 s45:Aft P 45=some [34,34]
 s54:Aft P 54=some [34,34]
 s56:Aft P 56=some [40,28,29,54]
 s81:Aft P 81=some [2,79]
 u2:P.underlying 2=some (.int .i64)
 u28:P.underlying 28=some (.slice 45)
 u29:P.underlying 29=some (.slice 54)
 u3:P.underlying 3=some (.int .i64)
 u34:P.underlying 34=some (.int .u32)
 u37:P.underlying 37=some (.slice 9)
 u38:P.underlying 38=some (.slice 81)
 u79:P.underlying 79=some (.slice 106)
 u9:P.underlying 9=some .string
theorem tf:TF env.P:=⟨by kernel_rfl,by kernel_rfl,by kernel_rfl,by kernel_rfl,by kernel_rfl,by kernel_rfl,by kernel_rfl,by kernel_rfl,by kernel_rfl,by kernel_rfl,by kernel_rfl,by kernel_rfl,by kernel_rfl,by kernel_rfl,by kernel_rfl,by kernel_rfl⟩
def Aok(x:api_Value):Prop:=(okI .i64) x.Kind/\(okI .i64) x.Num/\Awv x.Str
theorem Awa{P:Program}(F:TF P)(k:Nat):Dec (Ty P (k+2) 106) Aok Aa2:=fun ds h=>by
 have h:=Ah5 (k:=k+1) F.s106 h;simp only[TyTs]at h;obtain⟨a0,_,rfl,h0,a1,_,rfl,h1,a2,_,rfl,h2,rfl⟩:=h;obtain⟨x0,o0,rfl⟩:=(Ai3 (k:=(k+0)) F.u3) a0 h0;obtain⟨x1,o1,rfl⟩:=(Ai3 (k:=(k+0)) F.u2) a1 h1;obtain⟨x2,o2,rfl⟩:=(Ato (k:=(k+0)) F.u9) a2 h2;exact⟨⟨x0,x1,x2⟩,⟨o0,o1,o2⟩,rfl⟩
def Asr(x:api_Row):Prop:=(okI .i64) x.ID/\(okL Aok) x.Values
theorem Azm{P:Program}(F:TF P)(k:Nat):Dec (Ty P (k+4) 81) Asr Aa0:=fun ds h=>by
 have h:=Ah5 (k:=k+3) F.s81 h;simp only[TyTs]at h;obtain⟨a0,_,rfl,h0,a1,_,rfl,h1,rfl⟩:=h;obtain⟨x0,o0,rfl⟩:=(Ai3 (k:=(k+2)) F.u2) a0 h0;obtain⟨x1,o1,rfl⟩:=(Aiu (k:=(k+0)+2) F.u79 (Awa F (k+0))) a1 h1;exact⟨⟨x0,x1⟩,⟨o0,o1⟩,rfl⟩
def Ak7(x:api_Table):Prop:=Awv x.Name/\(okL Awv) x.Attrs/\(okL Asr) x.Rows
theorem Aw9{P:Program}(F:TF P)(k:Nat):Dec (Ty P (k+6) 40) Ak7 Awc:=fun ds h=>by
 have h:=Ah5 (k:=k+5) F.s40 h;simp only[TyTs]at h;obtain⟨a0,_,rfl,h0,a1,_,rfl,h1,a2,_,rfl,h2,rfl⟩:=h;obtain⟨x0,o0,rfl⟩:=(Ato (k:=(k+4)) F.u9) a0 h0;obtain⟨x1,o1,rfl⟩:=(Aiu (k:=(k+3)+1) F.u37 (Ato (k:=(k+3)) F.u9)) a1 h1;obtain⟨x2,o2,rfl⟩:=(Aiu (k:=(k+0)+4) F.u38 (Azm F (k+0))) a2 h2;exact⟨⟨x0,x1,x2⟩,⟨o0,o1,o2⟩,rfl⟩
def Avx(x:api_FD):Prop:=(okI .u32) x.Lhs/\(okI .u32) x.Rhs
theorem Bbd{P:Program}(F:TF P)(k:Nat):Dec (Ty P (k+2) 45) Avx Aa6:=fun ds h=>by
 have h:=Ah5 (k:=k+1) F.s45 h;simp only[TyTs]at h;obtain⟨a0,_,rfl,h0,a1,_,rfl,h1,rfl⟩:=h;obtain⟨x0,o0,rfl⟩:=(Ai3 (k:=(k+0)) F.u34) a0 h0;obtain⟨x1,o1,rfl⟩:=(Ai3 (k:=(k+0)) F.u34) a1 h1;exact⟨⟨x0,x1⟩,⟨o0,o1⟩,rfl⟩
def An0(x:api_MVD):Prop:=(okI .u32) x.Lhs/\(okI .u32) x.Rhs
theorem Apx{P:Program}(F:TF P)(k:Nat):Dec (Ty P (k+2) 54) An0 Aa5:=fun ds h=>by
 have h:=Ah5 (k:=k+1) F.s54 h;simp only[TyTs]at h;obtain⟨a0,_,rfl,h0,a1,_,rfl,h1,rfl⟩:=h;obtain⟨x0,o0,rfl⟩:=(Ai3 (k:=(k+0)) F.u34) a0 h0;obtain⟨x1,o1,rfl⟩:=(Ai3 (k:=(k+0)) F.u34) a1 h1;exact⟨⟨x0,x1⟩,⟨o0,o1⟩,rfl⟩
def Af6(x:drosslaw20_Claim):Prop:=Ak7 x.T/\(okL Avx) x.FDs/\(okL An0) x.MVDs/\An0 x.Goal
theorem Amo{P:Program}(F:TF P)(k:Nat):Dec (Ty P (k+7) 56) Af6 Aer:=fun ds h=>by
 have h:=Ah5 (k:=k+6) F.s56 h;simp only[TyTs]at h;obtain⟨a0,_,rfl,h0,a1,_,rfl,h1,a2,_,rfl,h2,a3,_,rfl,h3,rfl⟩:=h;obtain⟨x0,o0,rfl⟩:=(Aw9 F (k+0)) a0 h0;obtain⟨x1,o1,rfl⟩:=(Aiu (k:=(k+3)+2) F.u28 (Bbd F (k+3))) a1 h1;obtain⟨x2,o2,rfl⟩:=(Aiu (k:=(k+3)+2) F.u29 (Apx F (k+3))) a2 h2;obtain⟨x3,o3,rfl⟩:=(Apx F (k+4)) a3 h3;exact⟨⟨x0,x1,x2,x3⟩,⟨o0,o1,o2,o3⟩,rfl⟩
theorem Ahc{P:Program}(F:TF P){xs:List D}(hx:Akl P 7 [56] xs):∃x0:drosslaw20_Claim,Af6 x0/\xs=[.agg (Aer x0)]:=by
 simp only[Akl]at hx;obtain⟨d0,_,rfl,h0,rfl⟩:=hx;obtain⟨c0,rfl,g0⟩:=Bk0 F.g56 h0;obtain⟨x0,o0,rfl⟩:=(Amo F 0) c0 g0;exact⟨x0,o0,rfl⟩
abbrev Aiv:Nat:=7
abbrev Aiw:Nat:=7
abbrev Aix:List Nat:=[56]
theorem Ai4(h:∀x0:drosslaw20_Claim,Af6 x0->Ret env 7 [.agg (Aer x0)] (.lit (.bool true)) []){xs:List D}(hx:Akl env.P 7 [56] xs):Ret env 7 xs (.lit (.bool true)) []:=by
 obtain⟨x0,o0,e⟩:=Ahc (P:=env.P) tf hx;rw[e];exact h x0 o0
end Go.Own
