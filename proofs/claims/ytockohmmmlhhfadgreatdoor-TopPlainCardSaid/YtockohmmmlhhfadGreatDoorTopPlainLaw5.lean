/- What the functions answer. No conditions. -/
import Derived.Test.YtockohmmmlhhfadGreatDoorOwn33
import Derived.Test.YtockohmmmlhhfadGreatDoorBase2
set_option linter.all false
namespace Go.Own
open D
def Ae4:Enc drossref03_Recipe:=fun x=>[.lit (.int .u8 x.Attrs),.lit (.int .u8 x.Gap),.sl (x.Rows.map (eSl (eI .u8)))]
structure TF (P:Program):Prop where
 g24:isAggT P 24=true
 g26:isAggT P 26=true
 s24:Amu P 24=some [5,5,22]
 s26:Amu P 26=some [5,5]
 u101:P.underlying 101=some (.slice 5)
 u22:P.underlying 22=some (.slice 101)
 u5:P.underlying 5=some (.int .u8)
theorem tf:TF env.P:=⟨by kernel_rfl,by kernel_rfl,by kernel_rfl,by kernel_rfl,by kernel_rfl,by kernel_rfl,by kernel_rfl⟩
def Aen (x:drossref03_Recipe):Prop:=(okI .u8) x.Attrs/\(okI .u8) x.Gap/\(okL (okL (okI .u8))) x.Rows
theorem Ald {P:Program} (F:TF P) (k:Nat):Dec (Ty P (k+4) 24) Aen Ae4:=fun ds h=>by
 have h:=Av1 (k:=k+3) F.s24 h;simp only [TyTs] at h;obtain ⟨a0,_,rfl,h0,a1,_,rfl,h1,a2,_,rfl,h2,rfl⟩:=h;obtain ⟨x0,o0,rfl⟩:=(Ale (k:=(k+2)) F.u5) a0 h0;obtain ⟨x1,o1,rfl⟩:=(Ale (k:=(k+2)) F.u5) a1 h1;obtain ⟨x2,o2,rfl⟩:=(Au0 (k:=(k+0)+2) F.u22 (Au0 (k:=(k+0)+1) F.u101 (Ale (k:=(k+0)) F.u5))) a2 h2;exact ⟨⟨x0,x1,x2⟩,⟨o0,o1,o2⟩,rfl⟩
def Afx (x:drossref09_Dep):Prop:=(okI .u8) x.L/\(okI .u8) x.R
theorem Anp {P:Program} (F:TF P) (k:Nat):Dec (Ty P (k+2) 26) Afx Aay:=fun ds h=>by
 have h:=Av1 (k:=k+1) F.s26 h;simp only [TyTs] at h;obtain ⟨a0,_,rfl,h0,a1,_,rfl,h1,rfl⟩:=h;obtain ⟨x0,o0,rfl⟩:=(Ale (k:=(k+0)) F.u5) a0 h0;obtain ⟨x1,o1,rfl⟩:=(Ale (k:=(k+0)) F.u5) a1 h1;exact ⟨⟨x0,x1⟩,⟨o0,o1⟩,rfl⟩
theorem Akw {P:Program} (F:TF P) {xs:List D} (hx:Ak8 P 4 [24,26] xs):∃ x0:drossref03_Recipe,∃ x1:drossref09_Dep,Aen x0/\Afx x1/\xs=[.agg (Ae4 x0),.agg (Aay x1)]:=by
 simp only [Ak8] at hx;obtain ⟨d0,_,rfl,h0,d1,_,rfl,h1,rfl⟩:=hx;obtain ⟨c0,rfl,g0⟩:=Azb F.g24 h0;obtain ⟨x0,o0,rfl⟩:=(Ald F 0) c0 g0;obtain ⟨c1,rfl,g1⟩:=Azb F.g26 h1;obtain ⟨x1,o1,rfl⟩:=(Anp F 2) c1 g1;exact ⟨x0,x1,o0,o1,rfl⟩
abbrev Anc:Nat:=3
abbrev Ane:Nat:=4
abbrev Anf:List Nat:=[24,26]
theorem Amc (h:∀ x0:drossref03_Recipe,∀ x1:drossref09_Dep,Aen x0->Afx x1->Ret env 3 [.agg (Ae4 x0),.agg (Aay x1)] (.lit (.bool true)) []) {xs:List D} (hx:Ak8 env.P 4 [24,26] xs):Ret env 3 xs (.lit (.bool true)) []:=by
 obtain ⟨x0,x1,o0,o1,e⟩:=Akw (P:=env.P) tf hx;rw [e];exact h x0 x1 o0 o1
end Go.Own
