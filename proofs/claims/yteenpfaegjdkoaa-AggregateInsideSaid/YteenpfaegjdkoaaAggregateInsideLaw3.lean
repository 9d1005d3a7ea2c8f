/- What the functions that the law reaches answer. No conditions. -/
import Derived.Test.YteenpfaegjdkoaaOwn33
import Derived.Test.YteenpfaegjdkoaaBase2
import Derived.Test.YteenpfaegjdkoaaBase3
set_option linter.all false
namespace Go.Own
open D
def enc_drossref03_Recipe:Enc drossref03_Recipe:=fun x=>[.lit (.int .u8 x.Attrs),.lit (.int .u8 x.Gap),.sl (x.Rows.map (eSl (eI .u8)))]
def enc_drossref51_Ask:Enc drossref51_Ask:=fun x=>[.sl (x.Conds.map enc_arr3_Int),.lit (.int .u8 x.Kind),.lit (.int .u8 x.Attr)]
structure TF (P:Program):Prop where
 a63:arrayT P 63=some (3,5)
 g24:isAggT P 24=true
 g26:isAggT P 26=false
 g29:isAggT P 29=true
 s24:structTs P 24=some [5,5,22]
 s29:structTs P 29=some [27,5,5]
 u22:P.underlying 22=some (.slice 93)
 u26:P.underlying 26=some (.int .u32)
 u27:P.underlying 27=some (.slice 63)
 u5:P.underlying 5=some (.int .u8)
 u93:P.underlying 93=some (.slice 5)
theorem tf:TF env.P:=⟨by kernel_rfl,by kernel_rfl,by kernel_rfl,by kernel_rfl,by kernel_rfl,by kernel_rfl,by kernel_rfl,by kernel_rfl,by kernel_rfl,by kernel_rfl,by kernel_rfl⟩
def ok_drossref03_Recipe (x:drossref03_Recipe):Prop:=(okI .u8) x.Attrs∧(okI .u8) x.Gap∧(okL (okL (okI .u8))) x.Rows
theorem dec_drossref03_Recipe {P:Program} (F:TF P) (k:Nat):Dec (Ty P (k+4) 24) ok_drossref03_Recipe enc_drossref03_Recipe:=fun ds h=>by
 have h:=ty_struct (k:=k+3) F.s24 h
 simp only [TyTs] at h
 obtain ⟨a0,_,rfl,h0,a1,_,rfl,h1,a2,_,rfl,h2,rfl⟩:=h
 obtain ⟨x0,o0,rfl⟩:=(dec_int (k:=(k+2)) F.u5) a0 h0
 obtain ⟨x1,o1,rfl⟩:=(dec_int (k:=(k+2)) F.u5) a1 h1
 obtain ⟨x2,o2,rfl⟩:=(dec_slice (k:=(k+0)+2) F.u22 (dec_slice (k:=(k+0)+1) F.u93 (dec_int (k:=(k+0)) F.u5))) a2 h2
 exact ⟨⟨x0,x1,x2⟩,⟨o0,o1,o2⟩,rfl⟩
def ok_arr3_63 (x:(Int×Int×Int)):Prop:=(okI .u8) x.1∧(okI .u8) x.2.1∧(okI .u8) x.2.2
theorem dec_arr3_63 {P:Program} (F:TF P) (k:Nat):Dec (Ty P (k+2) 63) ok_arr3_63 enc_arr3_Int:=fun ds h=>by
 obtain ⟨ps,rfl,hl,hp⟩:=ty_array (k:=k+1) F.a63 h
 match ps,hl,hp with
 | [a0,a1,a2],_,hp=>
 have h0:=hp a0 (by simp)
 have h1:=hp a1 (by simp)
 have h2:=hp a2 (by simp)
 obtain ⟨x0,o0,rfl⟩:=(dec_int (k:=(k+0)) F.u5) a0 h0
 obtain ⟨x1,o1,rfl⟩:=(dec_int (k:=(k+0)) F.u5) a1 h1
 obtain ⟨x2,o2,rfl⟩:=(dec_int (k:=(k+0)) F.u5) a2 h2
 exact ⟨⟨x0,x1,x2⟩,⟨o0,o1,o2⟩,rfl⟩
def ok_drossref51_Ask (x:drossref51_Ask):Prop:=(okL ok_arr3_63) x.Conds∧(okI .u8) x.Kind∧(okI .u8) x.Attr
theorem dec_drossref51_Ask {P:Program} (F:TF P) (k:Nat):Dec (Ty P (k+4) 29) ok_drossref51_Ask enc_drossref51_Ask:=fun ds h=>by
 have h:=ty_struct (k:=k+3) F.s29 h
 simp only [TyTs] at h
 obtain ⟨a0,_,rfl,h0,a1,_,rfl,h1,a2,_,rfl,h2,rfl⟩:=h
 obtain ⟨x0,o0,rfl⟩:=(dec_slice (k:=(k+0)+2) F.u27 (dec_arr3_63 F (k+0))) a0 h0
 obtain ⟨x1,o1,rfl⟩:=(dec_int (k:=(k+2)) F.u5) a1 h1
 obtain ⟨x2,o2,rfl⟩:=(dec_int (k:=(k+2)) F.u5) a2 h2
 exact ⟨⟨x0,x1,x2⟩,⟨o0,o1,o2⟩,rfl⟩
theorem drosslaw51_AggregateInside_args {P:Program} (F:TF P) {xs:List D} (hx:TyAll P 4 [24,26,29] xs):∃ x0:drossref03_Recipe,∃ x1:Int,∃ x2:drossref51_Ask,ok_drossref03_Recipe x0∧(okI .u32) x1∧ok_drossref51_Ask x2∧xs=[.agg (enc_drossref03_Recipe x0),.lit (.int .u32 x1),.agg (enc_drossref51_Ask x2)]:=by
 simp only [TyAll] at hx
 obtain ⟨d0,_,rfl,h0,d1,_,rfl,h1,d2,_,rfl,h2,rfl⟩:=hx
 obtain ⟨c0,rfl,g0⟩:=tyA_agg F.g24 h0
 obtain ⟨x0,o0,rfl⟩:=(dec_drossref03_Recipe F 0) c0 g0
 have g1:=tyA_one F.g26 h1
 obtain ⟨x1,o1,e1⟩:=(dec_int (k:=3) F.u26) _ g1
 obtain rfl:=(List.cons.inj e1).1
 obtain ⟨c2,rfl,g2⟩:=tyA_agg F.g29 h2
 obtain ⟨x2,o2,rfl⟩:=(dec_drossref51_Ask F 0) c2 g2
 exact ⟨x0,x1,x2,o0,o1,o2,rfl⟩
abbrev drosslaw51_AggregateInside_F:Nat:=3
abbrev drosslaw51_AggregateInside_K:Nat:=4
abbrev drosslaw51_AggregateInside_T:List Nat:=[24,26,29]
theorem drosslaw51_AggregateInside_of (h:∀ x0:drossref03_Recipe,∀ x1:Int,∀ x2:drossref51_Ask,ok_drossref03_Recipe x0→(okI .u32) x1→ok_drossref51_Ask x2→Ret env 3 [.agg (enc_drossref03_Recipe x0),.lit (.int .u32 x1),.agg (enc_drossref51_Ask x2)] (.lit (.bool true)) []) {xs:List D} (hx:TyAll env.P 4 [24,26,29] xs):Ret env 3 xs (.lit (.bool true)) []:=by
 obtain ⟨x0,x1,x2,o0,o1,o2,e⟩:=drosslaw51_AggregateInside_args (P:=env.P) tf hx
 rw [e]
 exact h x0 x1 x2 o0 o1 o2
end Go.Own
