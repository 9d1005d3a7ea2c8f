/- What the functions answer. No conditions. -/
import Derived.Test.YtockohmmmlhhfacGreatDoorOwn28
import Derived.Test.YtockohmmmlhhfacGreatDoorBase2
set_option linter.all false
namespace Go.Own
open D
def Adl:Enc drossref03_Recipe:=fun x=>[.lit (.int .u8 x.Attrs),.lit (.int .u8 x.Gap),.sl (x.Rows.map (eSl (eI .u8)))]
def Adx:Enc drossref17_Lists:=fun x=>[.sl (x.X.map (eI .u8)),.sl (x.Y.map (eI .u8))]
structure TF (P:Program):Prop where
 g24:isAggT P 24=true
 g27:isAggT P 27=true
 s24:Alb P 24=some [5,5,22]
 s27:Alb P 27=some [25,25]
 u22:P.underlying 22=some (.slice 25)
 u25:P.underlying 25=some (.slice 5)
 u5:P.underlying 5=some (.int .u8)
theorem tf:TF env.P:=⟨by kernel_rfl,by kernel_rfl,by kernel_rfl,by kernel_rfl,by kernel_rfl,by kernel_rfl,by kernel_rfl⟩
def Ae0 (x:drossref03_Recipe):Prop:=(okI .u8) x.Attrs/\(okI .u8) x.Gap/\(okL (okL (okI .u8))) x.Rows
theorem Ak1 {P:Program} (F:TF P) (k:Nat):Dec (Ty P (k+4) 24) Ae0 Adl:=fun ds h=>by
 have h:=Asp (k:=k+3) F.s24 h;simp only [TyTs] at h;obtain ⟨a0,_,rfl,h0,a1,_,rfl,h1,a2,_,rfl,h2,rfl⟩:=h;obtain ⟨x0,o0,rfl⟩:=(Ak2 (k:=(k+2)) F.u5) a0 h0;obtain ⟨x1,o1,rfl⟩:=(Ak2 (k:=(k+2)) F.u5) a1 h1;obtain ⟨x2,o2,rfl⟩:=(Aj8 (k:=(k+0)+2) F.u22 (Aj8 (k:=(k+0)+1) F.u25 (Ak2 (k:=(k+0)) F.u5))) a2 h2;exact ⟨⟨x0,x1,x2⟩,⟨o0,o1,o2⟩,rfl⟩
def Aea (x:drossref17_Lists):Prop:=(okL (okI .u8)) x.X/\(okL (okI .u8)) x.Y
theorem Akv {P:Program} (F:TF P) (k:Nat):Dec (Ty P (k+3) 27) Aea Adx:=fun ds h=>by
 have h:=Asp (k:=k+2) F.s27 h;simp only [TyTs] at h;obtain ⟨a0,_,rfl,h0,a1,_,rfl,h1,rfl⟩:=h;obtain ⟨x0,o0,rfl⟩:=(Aj8 (k:=(k+0)+1) F.u25 (Ak2 (k:=(k+0)) F.u5)) a0 h0;obtain ⟨x1,o1,rfl⟩:=(Aj8 (k:=(k+0)+1) F.u25 (Ak2 (k:=(k+0)) F.u5)) a1 h1;exact ⟨⟨x0,x1⟩,⟨o0,o1⟩,rfl⟩
theorem Aj3 {P:Program} (F:TF P) {xs:List D} (hx:Aj5 P 4 [24,27] xs):∃ x0:drossref03_Recipe,∃ x1:drossref17_Lists,Ae0 x0/\Aea x1/\xs=[.agg (Adl x0),.agg (Adx x1)]:=by
 simp only [Aj5] at hx;obtain ⟨d0,_,rfl,h0,d1,_,rfl,h1,rfl⟩:=hx;obtain ⟨c0,rfl,g0⟩:=Awr F.g24 h0;obtain ⟨x0,o0,rfl⟩:=(Ak1 F 0) c0 g0;obtain ⟨c1,rfl,g1⟩:=Awr F.g27 h1;obtain ⟨x1,o1,rfl⟩:=(Akv F 1) c1 g1;exact ⟨x0,x1,o0,o1,rfl⟩
abbrev Akw:Nat:=3
abbrev Akx:Nat:=4
abbrev Aky:List Nat:=[24,27]
theorem Ak3 (h:∀ x0:drossref03_Recipe,∀ x1:drossref17_Lists,Ae0 x0->Aea x1->Ret env 3 [.agg (Adl x0),.agg (Adx x1)] (.lit (.bool true)) []) {xs:List D} (hx:Aj5 env.P 4 [24,27] xs):Ret env 3 xs (.lit (.bool true)) []:=by
 obtain ⟨x0,x1,o0,o1,e⟩:=Aj3 (P:=env.P) tf hx;rw [e];exact h x0 x1 o0 o1
end Go.Own
