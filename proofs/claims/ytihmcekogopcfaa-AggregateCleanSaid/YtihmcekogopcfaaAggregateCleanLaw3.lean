/- What the functions that the law reaches answer. No conditions. -/
import Derived.Test.YtihmcekogopcfaaOwn33
import Derived.Test.YtihmcekogopcfaaBase2
import Derived.Test.YtihmcekogopcfaaBase3
set_option linter.all false
namespace Go.Own
open D
def enc_drossref03_Recipe:Enc drossref03_Recipe:=fun x=>[.lit (.int .u8 x.Attrs),.lit (.int .u8 x.Gap),.sl (x.Rows.map (eSl (eI .u8)))]
def enc_drossref51_Ask:Enc drossref51_Ask:=fun x=>[.sl (x.Conds.map enc_arr3_Int),.lit (.int .u8 x.Kind),.lit (.int .u8 x.Attr)]
structure TF (P:Program):Prop where
 a112:arrayT P 112=some (3,5)
 g36:isAggT P 36=false
 g40:isAggT P 40=true
 g58:isAggT P 58=false
 g67:isAggT P 67=true
 g70:isAggT P 70=true
 g80:isAggT P 80=false
 s26:structTs P 26=some [9,23,24]
 s28:structTs P 28=some [3,2,9]
 s31:structTs P 31=some [2,29]
 s40:structTs P 40=some [26,36,38,3,3]
 s48:structTs P 48=some [3,3,28]
 s67:structTs P 67=some [5,5,65]
 s70:structTs P 70=some [68,5,5]
 u2:P.underlying 2=some (.int .i64)
 u23:P.underlying 23=some (.slice 9)
 u24:P.underlying 24=some (.slice 31)
 u29:P.underlying 29=some (.slice 28)
 u3:P.underlying 3=some (.int .i64)
 u36:P.underlying 36=some (.int .u32)
 u38:P.underlying 38=some (.slice 48)
 u5:P.underlying 5=some (.int .u8)
 u58:P.underlying 58=some (.slice 2)
 u65:P.underlying 65=some (.slice 80)
 u68:P.underlying 68=some (.slice 112)
 u80:P.underlying 80=some (.slice 5)
 u9:P.underlying 9=some .string
theorem tf:TF env.P:=⟨by kernel_rfl,by kernel_rfl,by kernel_rfl,by kernel_rfl,by kernel_rfl,by kernel_rfl,by kernel_rfl,by kernel_rfl,by kernel_rfl,by kernel_rfl,by kernel_rfl,by kernel_rfl,by kernel_rfl,by kernel_rfl,by kernel_rfl,by kernel_rfl,by kernel_rfl,by kernel_rfl,by kernel_rfl,by kernel_rfl,by kernel_rfl,by kernel_rfl,by kernel_rfl,by kernel_rfl,by kernel_rfl,by kernel_rfl,by kernel_rfl⟩
def ok_drossref03_Recipe (x:drossref03_Recipe):Prop:=(okI .u8) x.Attrs∧(okI .u8) x.Gap∧(okL (okL (okI .u8))) x.Rows
theorem dec_drossref03_Recipe {P:Program} (F:TF P) (k:Nat):Dec (Ty P (k+4) 67) ok_drossref03_Recipe enc_drossref03_Recipe:=fun ds h=>by
 have h:=ty_struct (k:=k+3) F.s67 h
 simp only [TyTs] at h
 obtain ⟨a0,_,rfl,h0,a1,_,rfl,h1,a2,_,rfl,h2,rfl⟩:=h
 obtain ⟨x0,o0,rfl⟩:=(dec_int (k:=(k+2)) F.u5) a0 h0
 obtain ⟨x1,o1,rfl⟩:=(dec_int (k:=(k+2)) F.u5) a1 h1
 obtain ⟨x2,o2,rfl⟩:=(dec_slice (k:=(k+0)+2) F.u65 (dec_slice (k:=(k+0)+1) F.u80 (dec_int (k:=(k+0)) F.u5))) a2 h2
 exact ⟨⟨x0,x1,x2⟩,⟨o0,o1,o2⟩,rfl⟩
def ok_arr3_112 (x:(Int×Int×Int)):Prop:=(okI .u8) x.1∧(okI .u8) x.2.1∧(okI .u8) x.2.2
theorem dec_arr3_112 {P:Program} (F:TF P) (k:Nat):Dec (Ty P (k+2) 112) ok_arr3_112 enc_arr3_Int:=fun ds h=>by
 obtain ⟨ps,rfl,hl,hp⟩:=ty_array (k:=k+1) F.a112 h
 match ps,hl,hp with
 | [a0,a1,a2],_,hp=>
 have h0:=hp a0 (by simp)
 have h1:=hp a1 (by simp)
 have h2:=hp a2 (by simp)
 obtain ⟨x0,o0,rfl⟩:=(dec_int (k:=(k+0)) F.u5) a0 h0
 obtain ⟨x1,o1,rfl⟩:=(dec_int (k:=(k+0)) F.u5) a1 h1
 obtain ⟨x2,o2,rfl⟩:=(dec_int (k:=(k+0)) F.u5) a2 h2
 exact ⟨⟨x0,x1,x2⟩,⟨o0,o1,o2⟩,rfl⟩
def ok_drossref51_Ask (x:drossref51_Ask):Prop:=(okL ok_arr3_112) x.Conds∧(okI .u8) x.Kind∧(okI .u8) x.Attr
theorem dec_drossref51_Ask {P:Program} (F:TF P) (k:Nat):Dec (Ty P (k+4) 70) ok_drossref51_Ask enc_drossref51_Ask:=fun ds h=>by
 have h:=ty_struct (k:=k+3) F.s70 h
 simp only [TyTs] at h
 obtain ⟨a0,_,rfl,h0,a1,_,rfl,h1,a2,_,rfl,h2,rfl⟩:=h
 obtain ⟨x0,o0,rfl⟩:=(dec_slice (k:=(k+0)+2) F.u68 (dec_arr3_112 F (k+0))) a0 h0
 obtain ⟨x1,o1,rfl⟩:=(dec_int (k:=(k+2)) F.u5) a1 h1
 obtain ⟨x2,o2,rfl⟩:=(dec_int (k:=(k+2)) F.u5) a2 h2
 exact ⟨⟨x0,x1,x2⟩,⟨o0,o1,o2⟩,rfl⟩
theorem drosslaw51_AggregateClean_args {P:Program} (F:TF P) {xs:List D} (hx:TyAll P 4 [67,36,70] xs):∃ x0:drossref03_Recipe,∃ x1:Int,∃ x2:drossref51_Ask,ok_drossref03_Recipe x0∧(okI .u32) x1∧ok_drossref51_Ask x2∧xs=[.agg (enc_drossref03_Recipe x0),.lit (.int .u32 x1),.agg (enc_drossref51_Ask x2)]:=by
 simp only [TyAll] at hx
 obtain ⟨d0,_,rfl,h0,d1,_,rfl,h1,d2,_,rfl,h2,rfl⟩:=hx
 obtain ⟨c0,rfl,g0⟩:=tyA_agg F.g67 h0
 obtain ⟨x0,o0,rfl⟩:=(dec_drossref03_Recipe F 0) c0 g0
 have g1:=tyA_one F.g36 h1
 obtain ⟨x1,o1,e1⟩:=(dec_int (k:=3) F.u36) _ g1
 obtain rfl:=(List.cons.inj e1).1
 obtain ⟨c2,rfl,g2⟩:=tyA_agg F.g70 h2
 obtain ⟨x2,o2,rfl⟩:=(dec_drossref51_Ask F 0) c2 g2
 exact ⟨x0,x1,x2,o0,o1,o2,rfl⟩
abbrev drosslaw51_AggregateClean_F:Nat:=6
abbrev drosslaw51_AggregateClean_K:Nat:=4
abbrev drosslaw51_AggregateClean_T:List Nat:=[67,36,70]
theorem drosslaw51_AggregateClean_of (h:∀ x0:drossref03_Recipe,∀ x1:Int,∀ x2:drossref51_Ask,ok_drossref03_Recipe x0→(okI .u32) x1→ok_drossref51_Ask x2→Ret env 6 [.agg (enc_drossref03_Recipe x0),.lit (.int .u32 x1),.agg (enc_drossref51_Ask x2)] (.lit (.bool true)) []) {xs:List D} (hx:TyAll env.P 4 [67,36,70] xs):Ret env 6 xs (.lit (.bool true)) []:=by
 obtain ⟨x0,x1,x2,o0,o1,o2,e⟩:=drosslaw51_AggregateClean_args (P:=env.P) tf hx
 rw [e]
 exact h x0 x1 x2 o0 o1 o2
end Go.Own
