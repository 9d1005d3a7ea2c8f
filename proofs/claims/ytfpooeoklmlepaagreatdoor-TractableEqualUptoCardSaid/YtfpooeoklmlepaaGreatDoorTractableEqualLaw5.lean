/- No conditions. -/
import Derived.Test.YtfpooeoklmlepaaGreatDoorOwn26
import Derived.Test.YtfpooeoklmlepaaGreatDoorBase2
set_option linter.all false
namespace Go.Own
open D
def Alh:Enc drossref03_Recipe:=fun x=>[.lit (.int .u8 x.Attrs),.lit (.int .u8 x.Gap),.sl (x.Rows.map (eSl (eI .u8)))]
def Af9:Enc drosslaw42_Case:=fun x=>[.lit (.int .u8 x.Table.Attrs),.lit (.int .u8 x.Table.Gap),.sl (x.Table.Rows.map (eSl (eI .u8))),.sl (x.Deps.map Aad),.sl (x.Weights.map (eI .u8))]
structure TF(P:Program):Prop where
 g28:isAggT P 28=true
 g34:isAggT P 34=false
 g5:isAggT P 5=false
 g61:isAggT P 61=false
 s24:Ak5 P 24=some [5,5,22]
 s28:Ak5 P 28=some [24,25,26]
 s98:Ak5 P 98=some [5,5]
 u2:P.underlying 2=some (.int .i64)
 u22:P.underlying 22=some (.slice 26)
 u25:P.underlying 25=some (.slice 98)
 u26:P.underlying 26=some (.slice 5)
 u34:P.underlying 34=some (.slice 2)
 u5:P.underlying 5=some (.int .u8)
 u61:P.underlying 61=some (.int .u16)
theorem tf:TF env.P:=⟨by kernel_rfl,by kernel_rfl,by kernel_rfl,by kernel_rfl,by kernel_rfl,by kernel_rfl,by kernel_rfl,by kernel_rfl,by kernel_rfl,by kernel_rfl,by kernel_rfl,by kernel_rfl,by kernel_rfl,by kernel_rfl⟩
def Ahf(x:drossref03_Recipe):Prop:=(okI .u8) x.Attrs/\(okI .u8) x.Gap/\(okL (okL (okI .u8))) x.Rows
theorem Alg{P:Program}(F:TF P)(k:Nat):Dec (Ty P (k+4) 24) Ahf Alh:=fun ds h=>by
 have h:=Aof (k:=k+3) F.s24 h;simp only[TyTs]at h;obtain⟨a0,_,rfl,h0,a1,_,rfl,h1,a2,_,rfl,h2,rfl⟩:=h;obtain⟨x0,o0,rfl⟩:=(Ajg (k:=(k+2)) F.u5) a0 h0;obtain⟨x1,o1,rfl⟩:=(Ajg (k:=(k+2)) F.u5) a1 h1;obtain⟨x2,o2,rfl⟩:=(Akj (k:=(k+0)+2) F.u22 (Akj (k:=(k+0)+1) F.u26 (Ajg (k:=(k+0)) F.u5))) a2 h2;exact⟨⟨x0,x1,x2⟩,⟨o0,o1,o2⟩,rfl⟩
def Aiz(x:drossref09_Dep):Prop:=(okI .u8) x.L/\(okI .u8) x.R
theorem Anl{P:Program}(F:TF P)(k:Nat):Dec (Ty P (k+2) 98) Aiz Aad:=fun ds h=>by
 have h:=Aof (k:=k+1) F.s98 h;simp only[TyTs]at h;obtain⟨a0,_,rfl,h0,a1,_,rfl,h1,rfl⟩:=h;obtain⟨x0,o0,rfl⟩:=(Ajg (k:=(k+0)) F.u5) a0 h0;obtain⟨x1,o1,rfl⟩:=(Ajg (k:=(k+0)) F.u5) a1 h1;exact⟨⟨x0,x1⟩,⟨o0,o1⟩,rfl⟩
def Ain(x:drosslaw42_Case):Prop:=Ahf x.Table/\(okL Aiz) x.Deps/\(okL (okI .u8)) x.Weights
theorem An5{P:Program}(F:TF P)(k:Nat):Dec (Ty P (k+5) 28) Ain Af9:=fun ds h=>by
 have h:=Aof (k:=k+4) F.s28 h;simp only[TyTs]at h;obtain⟨a0,_,rfl,h0,a1,_,rfl,h1,a2,_,rfl,h2,rfl⟩:=h;obtain⟨x0,o0,rfl⟩:=(Alg F (k+0)) a0 h0;obtain⟨x1,o1,rfl⟩:=(Akj (k:=(k+1)+2) F.u25 (Anl F (k+1))) a1 h1;obtain⟨x2,o2,rfl⟩:=(Akj (k:=(k+2)+1) F.u26 (Ajg (k:=(k+2)) F.u5)) a2 h2;exact⟨⟨x0,x1,x2⟩,⟨o0,o1,o2⟩,rfl⟩
theorem Ah5{P:Program}(F:TF P){xs:List D}(hx:Am5 P 5 [28] xs):∃x0:drosslaw42_Case,Ain x0/\xs=[.agg (Af9 x0)]:=by
 simp only[Am5]at hx;obtain⟨d0,_,rfl,h0,rfl⟩:=hx;obtain⟨c0,rfl,g0⟩:=Bjl F.g28 h0;obtain⟨x0,o0,rfl⟩:=(An5 F 0) c0 g0;exact⟨x0,o0,rfl⟩
abbrev Aig:Nat:=5
abbrev Aih:Nat:=5
abbrev Aii:List Nat:=[28]
end Go.Own
