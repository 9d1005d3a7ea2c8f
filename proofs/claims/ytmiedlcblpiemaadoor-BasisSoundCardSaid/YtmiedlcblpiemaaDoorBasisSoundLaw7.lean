/- What the functions answer. No conditions. -/
import Derived.Test.YtmiedlcblpiemaaDoorOwn35
import Derived.Test.YtmiedlcblpiemaaDoorBase1
set_option linter.all false
namespace Go.Own
open D
def Ae6:Enc drossref03_Recipe:=fun x=>[.lit (.int .u8 x.Attrs),.lit (.int .u8 x.Gap),.sl (x.Rows.map (eSl (eI .u8)))]
def Amz:Enc drossref09_Deps:=fun x=>[.lit (.int .u8 x.N),.sl (x.L.map Aa5)]
def Aen:Enc drossref13_Mixed:=fun x=>[.lit (.int .u8 x.D.N),.sl (x.D.L.map Aa5),.sl (x.M.map Aa5)]
structure TF (P:Program):Prop where
 g26:isAggT P 26=true
 g48:isAggT P 48=true
 g70:isAggT P 70=true
 s24:Ahq P 24=some [5,22]
 s26:Ahq P 26=some [24,22]
 s48:Ahq P 48=some [5,5]
 s70:Ahq P 70=some [5,5,68]
 u119:P.underlying 119=some (.slice 5)
 u22:P.underlying 22=some (.slice 48)
 u5:P.underlying 5=some (.int .u8)
 u68:P.underlying 68=some (.slice 119)
theorem tf:TF env.P:=⟨by kernel_rfl,by kernel_rfl,by kernel_rfl,by kernel_rfl,by kernel_rfl,by kernel_rfl,by kernel_rfl,by kernel_rfl,by kernel_rfl,by kernel_rfl,by kernel_rfl⟩
def Aep (x:drossref03_Recipe):Prop:=(okI .u8) x.Attrs/\(okI .u8) x.Gap/\(okL (okL (okI .u8))) x.Rows
theorem Al5 {P:Program} (F:TF P) (k:Nat):Dec (Ty P (k+4) 70) Aep Ae6:=fun ds h=>by
 have h:=Ako (k:=k+3) F.s70 h;simp only [TyTs] at h;obtain ⟨a0,_,rfl,h0,a1,_,rfl,h1,a2,_,rfl,h2,rfl⟩:=h;obtain ⟨x0,o0,rfl⟩:=(Aj1 (k:=(k+2)) F.u5) a0 h0;obtain ⟨x1,o1,rfl⟩:=(Aj1 (k:=(k+2)) F.u5) a1 h1;obtain ⟨x2,o2,rfl⟩:=(Ak6 (k:=(k+0)+2) F.u68 (Ak6 (k:=(k+0)+1) F.u119 (Aj1 (k:=(k+0)) F.u5))) a2 h2;exact ⟨⟨x0,x1,x2⟩,⟨o0,o1,o2⟩,rfl⟩
def Ad6 (x:drossref09_Dep):Prop:=(okI .u8) x.L/\(okI .u8) x.R
theorem Afc {P:Program} (F:TF P) (k:Nat):Dec (Ty P (k+2) 48) Ad6 Aa5:=fun ds h=>by
 have h:=Ako (k:=k+1) F.s48 h;simp only [TyTs] at h;obtain ⟨a0,_,rfl,h0,a1,_,rfl,h1,rfl⟩:=h;obtain ⟨x0,o0,rfl⟩:=(Aj1 (k:=(k+0)) F.u5) a0 h0;obtain ⟨x1,o1,rfl⟩:=(Aj1 (k:=(k+0)) F.u5) a1 h1;exact ⟨⟨x0,x1⟩,⟨o0,o1⟩,rfl⟩
def Aia (x:drossref09_Deps):Prop:=(okI .u8) x.N/\(okL Ad6) x.L
theorem Amy {P:Program} (F:TF P) (k:Nat):Dec (Ty P (k+4) 24) Aia Amz:=fun ds h=>by
 have h:=Ako (k:=k+3) F.s24 h;simp only [TyTs] at h;obtain ⟨a0,_,rfl,h0,a1,_,rfl,h1,rfl⟩:=h;obtain ⟨x0,o0,rfl⟩:=(Aj1 (k:=(k+2)) F.u5) a0 h0;obtain ⟨x1,o1,rfl⟩:=(Ak6 (k:=(k+0)+2) F.u22 (Afc F (k+0))) a1 h1;exact ⟨⟨x0,x1⟩,⟨o0,o1⟩,rfl⟩
def Af2 (x:drossref13_Mixed):Prop:=Aia x.D/\(okL Ad6) x.M
theorem Am1 {P:Program} (F:TF P) (k:Nat):Dec (Ty P (k+5) 26) Af2 Aen:=fun ds h=>by
 have h:=Ako (k:=k+4) F.s26 h;simp only [TyTs] at h;obtain ⟨a0,_,rfl,h0,a1,_,rfl,h1,rfl⟩:=h;obtain ⟨x0,o0,rfl⟩:=(Amy F (k+0)) a0 h0;obtain ⟨x1,o1,rfl⟩:=(Ak6 (k:=(k+1)+2) F.u22 (Afc F (k+1))) a1 h1;exact ⟨⟨x0,x1⟩,⟨o0,o1⟩,rfl⟩
theorem Aii {P:Program} (F:TF P) {xs:List D} (hx:Ak3 P 5 [70,26,48] xs):∃ x0:drossref03_Recipe,∃ x1:drossref13_Mixed,∃ x2:drossref09_Dep,Aep x0/\Af2 x1/\Ad6 x2/\xs=[.agg (Ae6 x0),.agg (Aen x1),.agg (Aa5 x2)]:=by
 simp only [Ak3] at hx;obtain ⟨d0,_,rfl,h0,d1,_,rfl,h1,d2,_,rfl,h2,rfl⟩:=hx;obtain ⟨c0,rfl,g0⟩:=At6 F.g70 h0;obtain ⟨x0,o0,rfl⟩:=(Al5 F 1) c0 g0;obtain ⟨c1,rfl,g1⟩:=At6 F.g26 h1;obtain ⟨x1,o1,rfl⟩:=(Am1 F 0) c1 g1;obtain ⟨c2,rfl,g2⟩:=At6 F.g48 h2;obtain ⟨x2,o2,rfl⟩:=(Afc F 3) c2 g2;exact ⟨x0,x1,x2,o0,o1,o2,rfl⟩
abbrev Ajw:Nat:=8
abbrev Ajx:Nat:=5
abbrev Ajy:List Nat:=[70,26,48]
theorem Aja (h:∀ x0:drossref03_Recipe,∀ x1:drossref13_Mixed,∀ x2:drossref09_Dep,Aep x0->Af2 x1->Ad6 x2->Ret env 8 [.agg (Ae6 x0),.agg (Aen x1),.agg (Aa5 x2)] (.lit (.bool true)) []) {xs:List D} (hx:Ak3 env.P 5 [70,26,48] xs):Ret env 8 xs (.lit (.bool true)) []:=by
 obtain ⟨x0,x1,x2,o0,o1,o2,e⟩:=Aii (P:=env.P) tf hx;rw [e];exact h x0 x1 x2 o0 o1 o2
end Go.Own
