/- No conditions. -/
import Derived.Test.YtfpooeoklmlepaaGreatDoorOwn26
import Derived.Test.YtfpooeoklmlepaaGreatDoorBase2
set_option linter.all false
namespace Go.Own
open D
def Al9:Enc drossref03_Recipe:=fun x=>[.lit (.int .u8 x.Attrs),.lit (.int .u8 x.Gap),.sl (x.Rows.map (eSl (eI .u8)))]
def Af3:Enc drosslaw42_Case:=fun x=>[.lit (.int .u8 x.Table.Attrs),.lit (.int .u8 x.Table.Gap),.sl (x.Table.Rows.map (eSl (eI .u8))),.sl (x.Deps.map Aad),.sl (x.Weights.map (eI .u8))]
structure TF (P:Program):Prop where
 g28:isAggT P 28=true
 g34:isAggT P 34=false
 g5:isAggT P 5=false
 g61:isAggT P 61=false
 s24:Ak0 P 24=some [5,5,22]
 s28:Ak0 P 28=some [24,25,26]
 s98:Ak0 P 98=some [5,5]
 u2:P.underlying 2=some (.int .i64)
 u22:P.underlying 22=some (.slice 26)
 u25:P.underlying 25=some (.slice 98)
 u26:P.underlying 26=some (.slice 5)
 u34:P.underlying 34=some (.slice 2)
 u5:P.underlying 5=some (.int .u8)
 u61:P.underlying 61=some (.int .u16)
theorem tf:TF env.P:=⟨by kernel_rfl,by kernel_rfl,by kernel_rfl,by kernel_rfl,by kernel_rfl,by kernel_rfl,by kernel_rfl,by kernel_rfl,by kernel_rfl,by kernel_rfl,by kernel_rfl,by kernel_rfl,by kernel_rfl,by kernel_rfl⟩
def Ah9 (x:drossref03_Recipe):Prop:=(okI .u8) x.Attrs/\(okI .u8) x.Gap/\(okL (okL (okI .u8))) x.Rows
theorem Al7 {P:Program} (F:TF P) (k:Nat):Dec (Ty P (k+4) 24) Ah9 Al9:=fun ds h=>by
 have h:=Ao7 (k:=k+3) F.s24 h;simp only [TyTs] at h;obtain ⟨a0,_,rfl,h0,a1,_,rfl,h1,a2,_,rfl,h2,rfl⟩:=h;obtain ⟨x0,o0,rfl⟩:=(Agl (k:=(k+2)) F.u5) a0 h0;obtain ⟨x1,o1,rfl⟩:=(Agl (k:=(k+2)) F.u5) a1 h1;obtain ⟨x2,o2,rfl⟩:=(Aif (k:=(k+0)+2) F.u22 (Aif (k:=(k+0)+1) F.u26 (Agl (k:=(k+0)) F.u5))) a2 h2;exact ⟨⟨x0,x1,x2⟩,⟨o0,o1,o2⟩,rfl⟩
def Aiy (x:drossref09_Dep):Prop:=(okI .u8) x.L/\(okI .u8) x.R
theorem Anc {P:Program} (F:TF P) (k:Nat):Dec (Ty P (k+2) 98) Aiy Aad:=fun ds h=>by
 have h:=Ao7 (k:=k+1) F.s98 h;simp only [TyTs] at h;obtain ⟨a0,_,rfl,h0,a1,_,rfl,h1,rfl⟩:=h;obtain ⟨x0,o0,rfl⟩:=(Agl (k:=(k+0)) F.u5) a0 h0;obtain ⟨x1,o1,rfl⟩:=(Agl (k:=(k+0)) F.u5) a1 h1;exact ⟨⟨x0,x1⟩,⟨o0,o1⟩,rfl⟩
def Aik (x:drosslaw42_Case):Prop:=Ah9 x.Table/\(okL Aiy) x.Deps/\(okL (okI .u8)) x.Weights
theorem Amx {P:Program} (F:TF P) (k:Nat):Dec (Ty P (k+5) 28) Aik Af3:=fun ds h=>by
 have h:=Ao7 (k:=k+4) F.s28 h;simp only [TyTs] at h;obtain ⟨a0,_,rfl,h0,a1,_,rfl,h1,a2,_,rfl,h2,rfl⟩:=h;obtain ⟨x0,o0,rfl⟩:=(Al7 F (k+0)) a0 h0;obtain ⟨x1,o1,rfl⟩:=(Aif (k:=(k+1)+2) F.u25 (Anc F (k+1))) a1 h1;obtain ⟨x2,o2,rfl⟩:=(Aif (k:=(k+2)+1) F.u26 (Agl (k:=(k+2)) F.u5)) a2 h2;exact ⟨⟨x0,x1,x2⟩,⟨o0,o1,o2⟩,rfl⟩
theorem Agv {P:Program} (F:TF P) {xs:List D} (hx:Alw P 5 [28,34,5] xs):∃ x0:drosslaw42_Case,∃ x1:List Int,∃ x2:Int,Aik x0/\(okL (okI .i64)) x1/\(okI .u8) x2/\xs=[.agg (Af3 x0),.sl (x1.map (eI .i64)),.lit (.int .u8 x2)]:=by
 simp only [Alw] at hx;obtain ⟨d0,_,rfl,h0,d1,_,rfl,h1,d2,_,rfl,h2,rfl⟩:=hx;obtain ⟨c0,rfl,g0⟩:=Bj2 F.g28 h0;obtain ⟨x0,o0,rfl⟩:=(Amx F 0) c0 g0;have g1:=Ba3 F.g34 h1;obtain ⟨x1,o1,e1⟩:=(Aif (k:=3+1) F.u34 (Agl (k:=3) F.u2)) _ g1;obtain rfl:=(List.cons.inj e1).1;have g2:=Ba3 F.g5 h2;obtain ⟨x2,o2,e2⟩:=(Agl (k:=4) F.u5) _ g2;obtain rfl:=(List.cons.inj e2).1;exact ⟨x0,x1,x2,o0,o1,o2,rfl⟩
abbrev Ahp:Nat:=4
abbrev Ahq:Nat:=5
abbrev Ahr:List Nat:=[28,34,5]
end Go.Own
