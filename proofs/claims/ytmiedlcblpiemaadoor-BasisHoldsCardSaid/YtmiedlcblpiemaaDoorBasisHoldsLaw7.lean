/- What the functions answer. No conditions. -/
import Derived.Test.YtmiedlcblpiemaaDoorOwn35
import Derived.Test.YtmiedlcblpiemaaDoorBase1
set_option linter.all false
namespace Go.Own
open D
def Agu:Enc api_Table:=fun x=>[.lit (.string x.Name),.sl (x.Attrs.map eS),.sl (x.Rows.map Aa2)]
def Ais:Enc api_MVD:=fun x=>[.lit (.int .u32 x.Lhs),.lit (.int .u32 x.Rhs)]
structure TF (P:Program):Prop where
 g43:isAggT P 43=true
 g65:isAggT P 65=true
 s115:Ag4 P 115=some [3,2,9]
 s43:Ag4 P 43=some [33,33]
 s65:Ag4 P 65=some [9,62,63]
 s94:Ag4 P 94=some [2,92]
 u2:P.underlying 2=some (.int .i64)
 u3:P.underlying 3=some (.int .i64)
 u33:P.underlying 33=some (.int .u32)
 u62:P.underlying 62=some (.slice 9)
 u63:P.underlying 63=some (.slice 94)
 u9:P.underlying 9=some .string
 u92:P.underlying 92=some (.slice 115)
theorem tf:TF env.P:=⟨by kernel_rfl,by kernel_rfl,by kernel_rfl,by kernel_rfl,by kernel_rfl,by kernel_rfl,by kernel_rfl,by kernel_rfl,by kernel_rfl,by kernel_rfl,by kernel_rfl,by kernel_rfl,by kernel_rfl⟩
def Alh (x:api_Value):Prop:=(okI .i64) x.Kind/\(okI .i64) x.Num/\Asj x.Str
theorem As3 {P:Program} (F:TF P) (k:Nat):Dec (Ty P (k+2) 115) Alh Aa1:=fun ds h=>by
 have h:=Aim (k:=k+1) F.s115 h;simp only [TyTs] at h;obtain ⟨a0,_,rfl,h0,a1,_,rfl,h1,a2,_,rfl,h2,rfl⟩:=h;obtain ⟨x0,o0,rfl⟩:=(Aj1 (k:=(k+0)) F.u3) a0 h0;obtain ⟨x1,o1,rfl⟩:=(Aj1 (k:=(k+0)) F.u2) a1 h1;obtain ⟨x2,o2,rfl⟩:=(Aq3 (k:=(k+0)) F.u9) a2 h2;exact ⟨⟨x0,x1,x2⟩,⟨o0,o1,o2⟩,rfl⟩
def Ap8 (x:api_Row):Prop:=(okI .i64) x.ID/\(okL Alh) x.Values
theorem Aun {P:Program} (F:TF P) (k:Nat):Dec (Ty P (k+4) 94) Ap8 Aa2:=fun ds h=>by
 have h:=Aim (k:=k+3) F.s94 h;simp only [TyTs] at h;obtain ⟨a0,_,rfl,h0,a1,_,rfl,h1,rfl⟩:=h;obtain ⟨x0,o0,rfl⟩:=(Aj1 (k:=(k+2)) F.u2) a0 h0;obtain ⟨x1,o1,rfl⟩:=(Akz (k:=(k+0)+2) F.u92 (As3 F (k+0))) a1 h1;exact ⟨⟨x0,x1⟩,⟨o0,o1⟩,rfl⟩
def Afj (x:api_Table):Prop:=Asj x.Name/\(okL Asj) x.Attrs/\(okL Ap8) x.Rows
theorem As2 {P:Program} (F:TF P) (k:Nat):Dec (Ty P (k+6) 65) Afj Agu:=fun ds h=>by
 have h:=Aim (k:=k+5) F.s65 h;simp only [TyTs] at h;obtain ⟨a0,_,rfl,h0,a1,_,rfl,h1,a2,_,rfl,h2,rfl⟩:=h;obtain ⟨x0,o0,rfl⟩:=(Aq3 (k:=(k+4)) F.u9) a0 h0;obtain ⟨x1,o1,rfl⟩:=(Akz (k:=(k+3)+1) F.u62 (Aq3 (k:=(k+3)) F.u9)) a1 h1;obtain ⟨x2,o2,rfl⟩:=(Akz (k:=(k+0)+4) F.u63 (Aun F (k+0))) a2 h2;exact ⟨⟨x0,x1,x2⟩,⟨o0,o1,o2⟩,rfl⟩
def Ak5 (x:api_MVD):Prop:=(okI .u32) x.Lhs/\(okI .u32) x.Rhs
theorem Aum {P:Program} (F:TF P) (k:Nat):Dec (Ty P (k+2) 43) Ak5 Ais:=fun ds h=>by
 have h:=Aim (k:=k+1) F.s43 h;simp only [TyTs] at h;obtain ⟨a0,_,rfl,h0,a1,_,rfl,h1,rfl⟩:=h;obtain ⟨x0,o0,rfl⟩:=(Aj1 (k:=(k+0)) F.u33) a0 h0;obtain ⟨x1,o1,rfl⟩:=(Aj1 (k:=(k+0)) F.u33) a1 h1;exact ⟨⟨x0,x1⟩,⟨o0,o1⟩,rfl⟩
theorem Agt {P:Program} (F:TF P) {xs:List D} (hx:Ai3 P 6 [65,43] xs):∃ x0:api_Table,∃ x1:api_MVD,Afj x0/\Ak5 x1/\xs=[.agg (Agu x0),.agg (Ais x1)]:=by
 simp only [Ai3] at hx;obtain ⟨d0,_,rfl,h0,d1,_,rfl,h1,rfl⟩:=hx;obtain ⟨c0,rfl,g0⟩:=Avl F.g65 h0;obtain ⟨x0,o0,rfl⟩:=(As2 F 0) c0 g0;obtain ⟨c1,rfl,g1⟩:=Avl F.g43 h1;obtain ⟨x1,o1,rfl⟩:=(Aum F 4) c1 g1;exact ⟨x0,x1,o0,o1,rfl⟩
abbrev Ahw:Nat:=7
abbrev Ahx:Nat:=6
abbrev Ahy:List Nat:=[65,43]
theorem Ahe (h:∀ x0:api_Table,∀ x1:api_MVD,Afj x0->Ak5 x1->Ret env 7 [.agg (Agu x0),.agg (Ais x1)] (.lit (.bool true)) []) {xs:List D} (hx:Ai3 env.P 6 [65,43] xs):Ret env 7 xs (.lit (.bool true)) []:=by
 obtain ⟨x0,x1,o0,o1,e⟩:=Agt (P:=env.P) tf hx;rw [e];exact h x0 x1 o0 o1
end Go.Own
