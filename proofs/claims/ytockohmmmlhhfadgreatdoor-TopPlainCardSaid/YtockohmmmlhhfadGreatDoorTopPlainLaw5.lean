/- What the functions answer. No conditions. -/
import Derived.Test.YtockohmmmlhhfadGreatDoorOwn33
import Derived.Test.YtockohmmmlhhfadGreatDoorBase2
set_option linter.all false
namespace Go.Own
open D
def Ae2:Enc drossref03_Recipe:=fun x=>[.lit (.int .u8 x.Attrs),.lit (.int .u8 x.Gap),.sl (x.Rows.map (eSl (eI .u8)))]
structure TF (P:Program):Prop where
 g24:isAggT P 24=true
 g26:isAggT P 26=true
 s24:Amp P 24=some [5,5,22]
 s26:Amp P 26=some [5,5]
 u101:P.underlying 101=some (.slice 5)
 u22:P.underlying 22=some (.slice 101)
 u5:P.underlying 5=some (.int .u8)
theorem tf:TF env.P:=⟨by kernel_rfl,by kernel_rfl,by kernel_rfl,by kernel_rfl,by kernel_rfl,by kernel_rfl,by kernel_rfl⟩
def Ael (x:drossref03_Recipe):Prop:=(okI .u8) x.Attrs/\(okI .u8) x.Gap/\(okL (okL (okI .u8))) x.Rows
theorem Al9 {P:Program} (F:TF P) (k:Nat):Dec (Ty P (k+4) 24) Ael Ae2:=fun ds h=>by
 have h:=Auu (k:=k+3) F.s24 h;simp only [TyTs] at h;obtain ⟨a0,_,rfl,h0,a1,_,rfl,h1,a2,_,rfl,h2,rfl⟩:=h;obtain ⟨x0,o0,rfl⟩:=(Ala (k:=(k+2)) F.u5) a0 h0;obtain ⟨x1,o1,rfl⟩:=(Ala (k:=(k+2)) F.u5) a1 h1;obtain ⟨x2,o2,rfl⟩:=(Att (k:=(k+0)+2) F.u22 (Att (k:=(k+0)+1) F.u101 (Ala (k:=(k+0)) F.u5))) a2 h2;exact ⟨⟨x0,x1,x2⟩,⟨o0,o1,o2⟩,rfl⟩
def Afv (x:drossref09_Dep):Prop:=(okI .u8) x.L/\(okI .u8) x.R
theorem Anj {P:Program} (F:TF P) (k:Nat):Dec (Ty P (k+2) 26) Afv Aaz:=fun ds h=>by
 have h:=Auu (k:=k+1) F.s26 h;simp only [TyTs] at h;obtain ⟨a0,_,rfl,h0,a1,_,rfl,h1,rfl⟩:=h;obtain ⟨x0,o0,rfl⟩:=(Ala (k:=(k+0)) F.u5) a0 h0;obtain ⟨x1,o1,rfl⟩:=(Ala (k:=(k+0)) F.u5) a1 h1;exact ⟨⟨x0,x1⟩,⟨o0,o1⟩,rfl⟩
theorem Akt {P:Program} (F:TF P) {xs:List D} (hx:Ak5 P 4 [24,26] xs):∃ x0:drossref03_Recipe,∃ x1:drossref09_Dep,Ael x0/\Afv x1/\xs=[.agg (Ae2 x0),.agg (Aaz x1)]:=by
 simp only [Ak5] at hx;obtain ⟨d0,_,rfl,h0,d1,_,rfl,h1,rfl⟩:=hx;obtain ⟨c0,rfl,g0⟩:=Az4 F.g24 h0;obtain ⟨x0,o0,rfl⟩:=(Al9 F 0) c0 g0;obtain ⟨c1,rfl,g1⟩:=Az4 F.g26 h1;obtain ⟨x1,o1,rfl⟩:=(Anj F 2) c1 g1;exact ⟨x0,x1,o0,o1,rfl⟩
abbrev An6:Nat:=3
abbrev An7:Nat:=4
abbrev An8:List Nat:=[24,26]
theorem Am7 (h:∀ x0:drossref03_Recipe,∀ x1:drossref09_Dep,Ael x0->Afv x1->Ret env 3 [.agg (Ae2 x0),.agg (Aaz x1)] (.lit (.bool true)) []) {xs:List D} (hx:Ak5 env.P 4 [24,26] xs):Ret env 3 xs (.lit (.bool true)) []:=by
 obtain ⟨x0,x1,o0,o1,e⟩:=Akt (P:=env.P) tf hx;rw [e];exact h x0 x1 o0 o1
end Go.Own
