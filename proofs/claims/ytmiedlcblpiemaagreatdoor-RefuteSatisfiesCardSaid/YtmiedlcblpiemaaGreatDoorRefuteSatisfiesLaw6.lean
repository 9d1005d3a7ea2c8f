/- What the functions answer. No conditions. -/
import Derived.Test.YtmiedlcblpiemaaGreatDoorOwn35
import Derived.Test.YtmiedlcblpiemaaGreatDoorBase2
set_option linter.all false
namespace Go.Own
open D
def Aij:Enc api_Table:=fun x=>[.lit (.string x.Name),.sl (x.Attrs.map eS),.sl (x.Rows.map Aa2)]
structure TF (P:Program):Prop where
 g28:isAggT P 28=false
 g29:isAggT P 29=false
 g40:isAggT P 40=true
 s106:Ag3 P 106=some [3,2,9]
 s40:Ag3 P 40=some [9,37,38]
 s45:Ag3 P 45=some [34,34]
 s54:Ag3 P 54=some [34,34]
 s81:Ag3 P 81=some [2,79]
 u2:P.underlying 2=some (.int .i64)
 u28:P.underlying 28=some (.slice 45)
 u29:P.underlying 29=some (.slice 54)
 u3:P.underlying 3=some (.int .i64)
 u34:P.underlying 34=some (.int .u32)
 u37:P.underlying 37=some (.slice 9)
 u38:P.underlying 38=some (.slice 81)
 u79:P.underlying 79=some (.slice 106)
 u9:P.underlying 9=some .string
theorem tf:TF env.P:=⟨by kernel_rfl,by kernel_rfl,by kernel_rfl,by kernel_rfl,by kernel_rfl,by kernel_rfl,by kernel_rfl,by kernel_rfl,by kernel_rfl,by kernel_rfl,by kernel_rfl,by kernel_rfl,by kernel_rfl,by kernel_rfl,by kernel_rfl,by kernel_rfl,by kernel_rfl⟩
def Ane (x:api_Value):Prop:=(okI .i64) x.Kind/\(okI .i64) x.Num/\Aux x.Str
theorem Auj {P:Program} (F:TF P) (k:Nat):Dec (Ty P (k+2) 106) Ane Aa1:=fun ds h=>by
 have h:=Aih (k:=k+1) F.s106 h;simp only [TyTs] at h;obtain ⟨a0,_,rfl,h0,a1,_,rfl,h1,a2,_,rfl,h2,rfl⟩:=h;obtain ⟨x0,o0,rfl⟩:=(Ahb (k:=(k+0)) F.u3) a0 h0;obtain ⟨x1,o1,rfl⟩:=(Ahb (k:=(k+0)) F.u2) a1 h1;obtain ⟨x2,o2,rfl⟩:=(As7 (k:=(k+0)) F.u9) a2 h2;exact ⟨⟨x0,x1,x2⟩,⟨o0,o1,o2⟩,rfl⟩
def Arc (x:api_Row):Prop:=(okI .i64) x.ID/\(okL Ane) x.Values
theorem Axh {P:Program} (F:TF P) (k:Nat):Dec (Ty P (k+4) 81) Arc Aa2:=fun ds h=>by
 have h:=Aih (k:=k+3) F.s81 h;simp only [TyTs] at h;obtain ⟨a0,_,rfl,h0,a1,_,rfl,h1,rfl⟩:=h;obtain ⟨x0,o0,rfl⟩:=(Ahb (k:=(k+2)) F.u2) a0 h0;obtain ⟨x1,o1,rfl⟩:=(Ai6 (k:=(k+0)+2) F.u79 (Auj F (k+0))) a1 h1;exact ⟨⟨x0,x1⟩,⟨o0,o1⟩,rfl⟩
def Agx (x:api_Table):Prop:=Aux x.Name/\(okL Aux) x.Attrs/\(okL Arc) x.Rows
theorem Aui {P:Program} (F:TF P) (k:Nat):Dec (Ty P (k+6) 40) Agx Aij:=fun ds h=>by
 have h:=Aih (k:=k+5) F.s40 h;simp only [TyTs] at h;obtain ⟨a0,_,rfl,h0,a1,_,rfl,h1,a2,_,rfl,h2,rfl⟩:=h;obtain ⟨x0,o0,rfl⟩:=(As7 (k:=(k+4)) F.u9) a0 h0;obtain ⟨x1,o1,rfl⟩:=(Ai6 (k:=(k+3)+1) F.u37 (As7 (k:=(k+3)) F.u9)) a1 h1;obtain ⟨x2,o2,rfl⟩:=(Ai6 (k:=(k+0)+4) F.u38 (Axh F (k+0))) a2 h2;exact ⟨⟨x0,x1,x2⟩,⟨o0,o1,o2⟩,rfl⟩
def Anc (x:api_FD):Prop:=(okI .u32) x.Lhs/\(okI .u32) x.Rhs
theorem Az2 {P:Program} (F:TF P) (k:Nat):Dec (Ty P (k+2) 45) Anc Aa4:=fun ds h=>by
 have h:=Aih (k:=k+1) F.s45 h;simp only [TyTs] at h;obtain ⟨a0,_,rfl,h0,a1,_,rfl,h1,rfl⟩:=h;obtain ⟨x0,o0,rfl⟩:=(Ahb (k:=(k+0)) F.u34) a0 h0;obtain ⟨x1,o1,rfl⟩:=(Ahb (k:=(k+0)) F.u34) a1 h1;exact ⟨⟨x0,x1⟩,⟨o0,o1⟩,rfl⟩
def Alz (x:api_MVD):Prop:=(okI .u32) x.Lhs/\(okI .u32) x.Rhs
theorem Axg {P:Program} (F:TF P) (k:Nat):Dec (Ty P (k+2) 54) Alz Aa6:=fun ds h=>by
 have h:=Aih (k:=k+1) F.s54 h;simp only [TyTs] at h;obtain ⟨a0,_,rfl,h0,a1,_,rfl,h1,rfl⟩:=h;obtain ⟨x0,o0,rfl⟩:=(Ahb (k:=(k+0)) F.u34) a0 h0;obtain ⟨x1,o1,rfl⟩:=(Ahb (k:=(k+0)) F.u34) a1 h1;exact ⟨⟨x0,x1⟩,⟨o0,o1⟩,rfl⟩
theorem Agg {P:Program} (F:TF P) {xs:List D} (hx:Ajr P 6 [40,28,29] xs):∃ x0:api_Table,∃ x1:List api_FD,∃ x2:List api_MVD,Agx x0/\(okL Anc) x1/\(okL Alz) x2/\xs=[.agg (Aij x0),.sl (x1.map Aa4),.sl (x2.map Aa6)]:=by
 simp only [Ajr] at hx;obtain ⟨d0,_,rfl,h0,d1,_,rfl,h1,d2,_,rfl,h2,rfl⟩:=hx;obtain ⟨c0,rfl,g0⟩:=Bh2 F.g40 h0;obtain ⟨x0,o0,rfl⟩:=(Aui F 0) c0 g0;have g1:=Ayn F.g28 h1;obtain ⟨x1,o1,e1⟩:=(Ai6 (k:=3+2) F.u28 (Az2 F 3)) _ g1;obtain rfl:=(List.cons.inj e1).1;have g2:=Ayn F.g29 h2;obtain ⟨x2,o2,e2⟩:=(Ai6 (k:=3+2) F.u29 (Axg F 3)) _ g2;obtain rfl:=(List.cons.inj e2).1;exact ⟨x0,x1,x2,o0,o1,o2,rfl⟩
abbrev Ahc:Nat:=4
abbrev Ahd:Nat:=6
abbrev Ahe:List Nat:=[40,28,29]
theorem Ah7 (h:∀ x0:api_Table,∀ x1:List api_FD,∀ x2:List api_MVD,Agx x0->(okL Anc) x1->(okL Alz) x2->Ret env 4 [.agg (Aij x0),.sl (x1.map Aa4),.sl (x2.map Aa6)] (.lit (.bool true)) []) {xs:List D} (hx:Ajr env.P 6 [40,28,29] xs):Ret env 4 xs (.lit (.bool true)) []:=by
 obtain ⟨x0,x1,x2,o0,o1,o2,e⟩:=Agg (P:=env.P) tf hx;rw [e];exact h x0 x1 x2 o0 o1 o2
end Go.Own
