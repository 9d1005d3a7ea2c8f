/- What the functions answer. No conditions. -/
import Derived.Test.YtockohmmmlhhfabGreatDoorOwn33
import Derived.Test.YtockohmmmlhhfabGreatDoorBase1
set_option linter.all false
namespace Go.Own
open D
def Ady:Enc drossref03_Recipe:=fun x=>[.lit (.int .u8 x.Attrs),.lit (.int .u8 x.Gap),.sl (x.Rows.map (eSl (eI .u8)))]
def Aeb:Enc drossref16_Draft:=fun x=>[.lit (.int .u8 x.Lhs),.lit (.int .u8 x.Rhs),.sl (x.Codes.map (eI .u8))]
def Aec:Enc drossref17_Lists:=fun x=>[.sl (x.X.map (eI .u8)),.sl (x.Y.map (eI .u8))]
structure TF (P:Program):Prop where
 g24:isAggT P 24=true
 g27:isAggT P 27=true
 g29:isAggT P 29=true
 s24:Aj1 P 24=some [5,5,22]
 s27:Aj1 P 27=some [5,5,25]
 s29:Aj1 P 29=some [25,25]
 u22:P.underlying 22=some (.slice 25)
 u25:P.underlying 25=some (.slice 5)
 u5:P.underlying 5=some (.int .u8)
theorem tf:TF env.P:=⟨by kernel_rfl,by kernel_rfl,by kernel_rfl,by kernel_rfl,by kernel_rfl,by kernel_rfl,by kernel_rfl,by kernel_rfl,by kernel_rfl⟩
def Aef (x:drossref03_Recipe):Prop:=(okI .u8) x.Attrs/\(okI .u8) x.Gap/\(okL (okL (okI .u8))) x.Rows
theorem Akc {P:Program} (F:TF P) (k:Nat):Dec (Ty P (k+4) 24) Aef Ady:=fun ds h=>by
 have h:=An8 (k:=k+3) F.s24 h;simp only [TyTs] at h;obtain ⟨a0,_,rfl,h0,a1,_,rfl,h1,a2,_,rfl,h2,rfl⟩:=h;obtain ⟨x0,o0,rfl⟩:=(Ag5 (k:=(k+2)) F.u5) a0 h0;obtain ⟨x1,o1,rfl⟩:=(Ag5 (k:=(k+2)) F.u5) a1 h1;obtain ⟨x2,o2,rfl⟩:=(Ahg (k:=(k+0)+2) F.u22 (Ahg (k:=(k+0)+1) F.u25 (Ag5 (k:=(k+0)) F.u5))) a2 h2;exact ⟨⟨x0,x1,x2⟩,⟨o0,o1,o2⟩,rfl⟩
def Aen (x:drossref16_Draft):Prop:=(okI .u8) x.Lhs/\(okI .u8) x.Rhs/\(okL (okI .u8)) x.Codes
theorem Al6 {P:Program} (F:TF P) (k:Nat):Dec (Ty P (k+3) 27) Aen Aeb:=fun ds h=>by
 have h:=An8 (k:=k+2) F.s27 h;simp only [TyTs] at h;obtain ⟨a0,_,rfl,h0,a1,_,rfl,h1,a2,_,rfl,h2,rfl⟩:=h;obtain ⟨x0,o0,rfl⟩:=(Ag5 (k:=(k+1)) F.u5) a0 h0;obtain ⟨x1,o1,rfl⟩:=(Ag5 (k:=(k+1)) F.u5) a1 h1;obtain ⟨x2,o2,rfl⟩:=(Ahg (k:=(k+0)+1) F.u25 (Ag5 (k:=(k+0)) F.u5)) a2 h2;exact ⟨⟨x0,x1,x2⟩,⟨o0,o1,o2⟩,rfl⟩
def Aeo (x:drossref17_Lists):Prop:=(okL (okI .u8)) x.X/\(okL (okI .u8)) x.Y
theorem Al7 {P:Program} (F:TF P) (k:Nat):Dec (Ty P (k+3) 29) Aeo Aec:=fun ds h=>by
 have h:=An8 (k:=k+2) F.s29 h;simp only [TyTs] at h;obtain ⟨a0,_,rfl,h0,a1,_,rfl,h1,rfl⟩:=h;obtain ⟨x0,o0,rfl⟩:=(Ahg (k:=(k+0)+1) F.u25 (Ag5 (k:=(k+0)) F.u5)) a0 h0;obtain ⟨x1,o1,rfl⟩:=(Ahg (k:=(k+0)+1) F.u25 (Ag5 (k:=(k+0)) F.u5)) a1 h1;exact ⟨⟨x0,x1⟩,⟨o0,o1⟩,rfl⟩
theorem Agr {P:Program} (F:TF P) {xs:List D} (hx:Aja P 4 [24,27,29] xs):∃ x0:drossref03_Recipe,∃ x1:drossref16_Draft,∃ x2:drossref17_Lists,Aef x0/\Aen x1/\Aeo x2/\xs=[.agg (Ady x0),.agg (Aeb x1),.agg (Aec x2)]:=by
 simp only [Aja] at hx;obtain ⟨d0,_,rfl,h0,d1,_,rfl,h1,d2,_,rfl,h2,rfl⟩:=hx;obtain ⟨c0,rfl,g0⟩:=Arv F.g24 h0;obtain ⟨x0,o0,rfl⟩:=(Akc F 0) c0 g0;obtain ⟨c1,rfl,g1⟩:=Arv F.g27 h1;obtain ⟨x1,o1,rfl⟩:=(Al6 F 1) c1 g1;obtain ⟨c2,rfl,g2⟩:=Arv F.g29 h2;obtain ⟨x2,o2,rfl⟩:=(Al7 F 1) c2 g2;exact ⟨x0,x1,x2,o0,o1,o2,rfl⟩
abbrev Aho:Nat:=3
abbrev Ahp:Nat:=4
abbrev Ahq:List Nat:=[24,27,29]
theorem Ahh (h:∀ x0:drossref03_Recipe,∀ x1:drossref16_Draft,∀ x2:drossref17_Lists,Aef x0->Aen x1->Aeo x2->Ret env 3 [.agg (Ady x0),.agg (Aeb x1),.agg (Aec x2)] (.lit (.bool true)) []) {xs:List D} (hx:Aja env.P 4 [24,27,29] xs):Ret env 3 xs (.lit (.bool true)) []:=by
 obtain ⟨x0,x1,x2,o0,o1,o2,e⟩:=Agr (P:=env.P) tf hx;rw [e];exact h x0 x1 x2 o0 o1 o2
end Go.Own
