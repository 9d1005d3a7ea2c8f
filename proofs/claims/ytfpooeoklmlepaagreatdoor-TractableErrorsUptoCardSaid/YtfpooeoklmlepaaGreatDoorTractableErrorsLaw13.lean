/- No conditions. -/
import Derived.Test.YtfpooeoklmlepaaGreatDoorTractableErrorsLaw12
import Derived.Test.YtfpooeoklmlepaaGreatDoorTractableErrorsLaw4
set_option linter.all false
namespace Go.Own
def depL (n:Nat) (L:List drossref09_Dep):List api_FD:=L.map fun x=>{ Lhs:=((sN x.L &&& (2^n-1):Nat):Int),Rhs:=((sN x.R &&& (2^n-1):Nat):Int) }
def Bg2 (L:List drossref09_Dep):Prop:=∀ x∈L,(0<=x.L/\x.L<256)/\0<=x.R/\x.R<256
theorem Azi {x:Int} (h:0<=x/\x<256) {n:Nat} (hn:n<=16):bAnd .u32 (IntKind.wrap .u32 x) ((2^n-1:Nat):Int)=((sN x &&& (2^n-1):Nat):Int):=by
 have hp:=Bga hn;have e:x=((sN x:Nat):Int):=by unfold sN;omega
 have e2:IntKind.wrap .u32 x=((sN x:Nat):Int):=by
  conv=>lhs;rw [e]
  exact Aev (k:=.u32) (by simp only [top];unfold sN;omega)
 rw [e2];exact Agd (k:=.u32) (by simp only [top];unfold sN;omega) (by simp only [top];omega)
theorem Az9 {x n:Nat}:x &&& (2^n-1)<2^n:=by
 have:=Nat.and_le_right (n:=x) (m:=2^n-1);have:0<2^n:=Nat.pow_pos (by omega);omega
theorem q100_.spec {n:Nat} {L:List drossref09_Dep} (hn:n<=16) (hL:Bg2 L) (hlen:L.length<=4000000):q100_.C n L (depL n L):=by
 obtain ⟨r,h1,h2⟩:=q100_.enter n L (fun r=>r=depL n L) (by
  refine ⟨_,Bcn hn,?_⟩;have:∀ (r:List drossref09_Dep) (k:Nat),L.drop k=r->k<=L.length->q100_.L1 L ((2^n-1:Nat):Int) (depL n (L.take k)) k (fun r=>r=depL n L):=by
   intro r
   induction r with
   | nil=>
    intro k hd hk;have:=Abv hd;apply q100_.L1_step;rw [if_neg (by omega),List.take_of_length_le (by omega)]
   | cons x r ih=>
    intro k hd hk;have hlt:=Abw hd;have hx:=hL x (List.mem_of_getElem? (Abh hd));have next:=ih (k+1) (Aat hd) (by omega);rw [List.take_add_one,Abh hd,Option.toList_some] at next;unfold depL at next;rw [List.map_append,List.map_cons,List.map_nil] at next;apply q100_.L1_step;rw [if_pos (by omega)];refine ⟨x,Abk hd,?_⟩;rw [Azi hx.1 hn,Azi hx.2 hn,Aa4 (by omega)];exact ⟨by unfold depL;rw [List.length_map,List.length_take];omega,next⟩
  exact this L 0 rfl (Nat.zero_le _))
 rw [← h1];exact h2
theorem Ay8:∀ (es:List (List D)),es.length<=wtLL es
 | []=>Nat.le_refl _
 | x::r=>by simp only [wtLL,List.length_cons];have:=Ay8 r;omega
theorem Bgs {n:Nat} {L:List drossref09_Dep} (hn:n<=16):FdOK (depL n L):=fun d hd=>by
 obtain ⟨x,_,rfl⟩:=List.mem_map.1 hd;have hp:=Bga hn;exact ⟨U32.of (Nat.lt_of_lt_of_le Az9 (by omega)),U32.of (Nat.lt_of_lt_of_le Az9 (by omega))⟩
theorem Bet {n:Nat} {L:List drossref09_Dep}:(depL n L).length=L.length:=by simp [depL]
theorem Bm2 {x:drossref03_Recipe} (h:(okI .u8) x.Attrs/\(okI .u8) x.Gap/\(okL (okL (okI .u8))) x.Rows):RecOK x:=⟨Amk h.1,Amk h.2.1,fun r hr c hc=>Amk ((h.2.2.2 r hr).2 c hc)⟩
def wsF (R:Nat) (W:List Int):List Int:=if W.length<R then [] else (W.take R).map fun w=>1+w
structure CaseOK (x:drosslaw42_Case):Prop where
 tb:RecOK x.Table
 dp:Bg2 x.Deps
 dl:x.Deps.length<=4000000
 ww:∀ w∈x.Weights,0<=w/\w<256
namespace q29_
theorem tab_n {x:drossref03_Recipe} {most:Nat} (hx:RecOK x):(tabF x most).1.Attrs.length<=5:=by
 unfold tabF
 split
 ·have:=hx.at_;rw [Bbp (by omega)];omega
 ·simp
theorem tab_rows {x:drossref03_Recipe} {most:Nat}:(tabF x most).1.Rows.length<=most:=by
 unfold tabF
 split
 ·simp [Ajb];assumption
 ·simp
theorem spec {x:drosslaw42_Case} (h:CaseOK x) {most:Nat} (hm:most<=1000):C x most ((tabF x.Table most).1,depL (tabF x.Table most).1.Attrs.length x.Deps,wsF (tabF x.Table most).1.Rows.length x.Weights,(tabF x.Table most).2&&decide ((x.Deps.length:Int)<=6)):=by
 have hn:=tab_n (most:=most) h.tb;have hr:=tab_rows (x:=x.Table) (most:=most);have ht:=q76_.spec (x:=x.Table) (most:=most) (by omega) h.tb;generalize tabF x.Table most=T at *;obtain ⟨t,ok⟩:=T;simp only at hn hr ht ⊢;have hd:=q100_.spec (n:=t.Attrs.length) (by omega) h.dp h.dl;generalize depL t.Attrs.length x.Deps=fds at hd ⊢;obtain ⟨r,h1,h2⟩:=enter x (most:Int) (fun r=>r=(t,fds,wsF t.Rows.length x.Weights,ok&&decide ((x.Deps.length:Int)<=6))) (by
  refine ⟨_,ht,_,hd,?_⟩;have fin:L3 x (t,ok) fds (wsF t.Rows.length x.Weights) (fun r=>r=(t,fds,wsF t.Rows.length x.Weights,ok&&decide ((x.Deps.length:Int)<=6))):=by
   apply L3_step;cases ok
   ·rw [if_neg (by simp)];simp
   ·rw [if_pos rfl];simp
  have go:∀ (d i:Nat),i+d=t.Rows.length->L1 x (t,ok) fds ((x.Weights.take i).map fun w=>1+w) i (fun r=>r=(t,fds,wsF t.Rows.length x.Weights,ok&&decide ((x.Deps.length:Int)<=6))):=by
   intro d
   induction d with
   | zero=>
    intro i hi;have:i=t.Rows.length:=by omega
    subst this;apply L1_step;rw [if_neg (by show ¬ ((t.Rows.length:Int)<(t.Rows.length:Int));omega)];show if ((((x.Weights.take t.Rows.length).map fun w=>1+w).length:Int)<(t.Rows.length:Int)) then _ else _
    unfold wsF at fin ⊢;by_cases hlt:x.Weights.length<t.Rows.length
    ·rw [if_pos hlt] at fin ⊢;rw [if_pos (by rw [List.length_map,List.length_take];omega)];exact fin
    ·rw [if_neg hlt] at fin ⊢;rw [if_neg (by rw [List.length_map,List.length_take];omega)];exact fin
   | succ d ih=>
    intro i hi;have:=ih (i+1) (by omega);apply L1_step;rw [if_pos (by show (i:Int)<(t.Rows.length:Int);omega)];by_cases hw:i<x.Weights.length
    ·rw [if_pos (by omega)];have hg:=List.getElem?_eq_getElem hw;have hb:=h.ww _ (List.getElem_mem hw);generalize x.Weights[i]=w at hg hb;refine ⟨w,Aa9 hg,by rw [List.length_map,List.length_take];omega,?_⟩;apply L2_step;rw [Aa4 (by omega),Abb (x:=w) (by omega) (by omega),Abb (by omega) (by omega)];rw [List.take_add_one,hg] at this;simpa using this
    ·rw [if_neg (by omega)];apply L2_step;rw [Aa4 (by omega)];rw [List.take_of_length_le (by omega)] at this ⊢;exact this
  exact go t.Rows.length 0 (by omega))
 rw [← h1];exact h2
end q29_
section
variable {t:api_Table} {fds:List api_FD} {ws:List Int}
namespace q31_
end q31_
namespace q77_
def delN (t:api_Table) (ws:List Int) (x i:Nat):List Int:=((List.range i).filter fun j=>x.testBit j).map fun j=>(enT t ws j).row.ID
def sumN (ws:List Int) (x i:Nat):Int:=sumA (fun j=>if x.testBit j=true then wtN ws j else 0) i
def okN (t:api_Table) (fds:List api_FD) (ws:List Int) (x:Nat):Prop:=Akc eqE (DN fds) (entL t ws) fun e=>decide (e.row.ID ∉ delN t ws x t.Rows.length)
structure LB (t:api_Table) (fds:List api_FD) (ws:List Int) (k:Nat) (b:Int):Prop where
 is:(b = -1/\∀ y,y<k->¬ okN t fds ws y)∨∃ y,y<k/\okN t fds ws y/\sumN ws y t.Rows.length=b
 le:∀ y,y<k->okN t fds ws y->b<=sumN ws y t.Rows.length
end q77_
end
section
variable {t:api_Table} {fds:List api_FD} {ws:List Int}
structure CasT (x:drosslaw42_Case) (most:Nat) (t:api_Table) (fds:List api_FD) (ws:List Int):Prop where
 num:TNum t
 fd:FdOK fds
 few:fds.length<=6
 rows:t.Rows.length<=most
 n5:t.Attrs.length<=5
 wl:ws.length<=most
 eq:fds=depL t.Attrs.length x.Deps
theorem CasT.of {x:drosslaw42_Case} (h:CaseOK x) {most:Nat} (hm:most<=1000) (hok:((tabF x.Table most).2&&decide ((x.Deps.length:Int)<=6))=true):CasT x most (tabF x.Table most).1 (depL (tabF x.Table most).1.Attrs.length x.Deps) (wsF (tabF x.Table most).1.Rows.length x.Weights):=by
 rw [Bool.and_eq_true,decide_eq_true_eq] at hok;have hn:=q29_.tab_n (most:=most) h.tb;have hr:=q29_.tab_rows (x:=x.Table) (most:=most);refine ⟨?_,Bgs (by omega),by rw [Bet];omega,hr,hn,?_,rfl⟩
 ·unfold tabF
  split
  ·exact Bg1
  ·intro r hr;simp at hr
 ·unfold wsF
  split
  ·simp
  ·rw [List.length_map,List.length_take];omega
end
namespace drosslaw42_TractableErrors
theorem again {φ:Bool->Prop} (h:φ true):L3 φ:=L3_step φ ⟨true,q78_.spec,h⟩
theorem both {t:api_Table} {ok:Bool} {fds0:List api_FD} {ws0:List Int} {ws:List Int} {nm:ByteArray} {fds:List api_FD} (hnum:TNum t) (hf:FdOK fds) (h12:fds.length<=12) (hr:t.Rows.length<=7) (hw:ws.length<=20):L1 ws nm (t,fds0,ws0,ok) fds (fun r=>r=true):=by
 have hnum2:TNum ⟨nm,t.Attrs,t.Rows⟩:=hnum;have hr2:(⟨nm,t.Attrs,t.Rows⟩:api_Table).Rows.length<=7:=hr;apply L1_step;refine ⟨by omega,?_⟩;show ∃ r30:List Int×Int×Int,q98_.C ⟨nm,t.Attrs,t.Rows⟩ fds ws r30/\∃ r31:Int,q75_.C ⟨nm,t.Attrs,t.Rows⟩ fds ws r31/\_;generalize (⟨nm,t.Attrs,t.Rows⟩:api_Table)=u at hnum2 hr2 ⊢;have hE:=q75_.spec (t:=u) (ws:=ws) hf (by omega) (by omega);by_cases he:errT u fds ws=0
 ·obtain ⟨p,hp,hs⟩:=q98_.ok (OkT.of he hnum2 hf h12 (by omega)) he;refine ⟨_,hs,_,hE,?_⟩;rw [if_pos he.symm,if_pos he]
 ·refine ⟨_,q98_.err hf h12 (by omega) he,_,hE,?_⟩;rw [if_pos rfl,if_neg he,if_pos (by simp)];rfl
theorem spec (x:drosslaw42_Case) (ws:List Int) (c:Int) (h:CaseOK x) (hc:0<=c/\c<256):C x ws c true:=by
 obtain ⟨r,h1,h2⟩:=enter x ws c (fun r=>r=true) (by
  refine ⟨_,q29_.spec h (most:=7) (by decide),true,q78_.spec,?_⟩;rw [if_pos rfl];by_cases hok:((tabF x.Table 7).2&&decide ((x.Deps.length:Int)<=6))=true
  ·rw [if_pos hok];have hT:=CasT.of h (most:=7) (by decide) hok;generalize (tabF x.Table 7).1=t at hT ⊢;generalize depL t.Attrs.length x.Deps=fds at hT ⊢;generalize wsF t.Rows.length x.Weights=ws0 at hT ⊢;have hn5:=hT.n5;have hfl:=hT.few;by_cases h20:20<(ws.length:Int)
   ·rw [if_pos h20];exact again rfl
   ·rw [if_neg h20];by_cases c1:Int.tmod c 6=1
    ·rw [if_pos c1];exact both hT.num hT.fd (by show fds.length<=12;omega) hT.rows (by omega)
    ·rw [if_neg c1];by_cases c2:Int.tmod c 6=2
     ·rw [if_pos c2];refine ⟨by omega,by show (fds.length+1)*8<=_;omega,both hT.num ?_ (by show (fds++[_]).length<=12;rw [List.length_append];simp;omega) hT.rows (by omega)⟩;intro d hd;rcases List.mem_append.1 hd with hd | hd
      ·exact hT.fd d hd
      ·rw [List.mem_singleton] at hd;subst hd;show U32 (shlw .u32 1 (t.Attrs.length:Int))/\U32 0;rw [Aqo (k:=.u32) (by simp only [top];omega)];have:2^t.Attrs.length<=2^5:=Nat.pow_le_pow_right (by decide) hn5;exact ⟨U32.of (by omega),Ae3⟩
     ·rw [if_neg c2];by_cases c3:Int.tmod c 6=3
      ·rw [if_pos c3];have go:∀ (k:Nat) (ws:List Int),ws.length=k->k<=20->L2 ws (t,fds,ws0,((tabF x.Table 7).2&&decide ((x.Deps.length:Int)<=6))) (fun r=>r=true):=by
        intro k
        induction k with
        | zero=>
         intro ws hk _;apply L2_step;rw [if_neg (by show ¬ ((t.Rows.length:Int)<(ws.length:Int));omega)];exact both hT.num hT.fd (by show fds.length<=12;omega) hT.rows (by omega)
        | succ k ih=>
         intro ws hk h20;apply L2_step;by_cases hlt:(t.Rows.length:Int)<(ws.length:Int)
         ·rw [if_pos hlt];have e:IntKind.wrap .i64 ((ws.length:Int)-1)=((k:Nat):Int):=by rw [Abb (by omega) (by omega)];omega
          rw [e,Int.toNat_natCast];exact ⟨by omega,⟨by omega,by omega⟩,ih _ (by rw [List.length_take];omega) (by omega)⟩
         ·rw [if_neg hlt];exact both hT.num hT.fd (by show fds.length<=12;omega) hT.rows (by omega)
       exact go ws.length ws rfl (by omega)
      ·rw [if_neg c3];exact both hT.num hT.fd (by show fds.length<=12;omega) hT.rows (by omega)
  ·rw [if_neg hok]
   exact again rfl)
 subst h1;exact h2
theorem law {xs:List D} (hx:Alw env.P Ahq Ahr xs) (hw:wtL xs<=1048576):Ret env Ahp xs (.lit (.bool true)) []:=by
 obtain ⟨x0,x1,x2,h0,h1,h2,e⟩:=Agv (P:=env.P) tf hx;rw [e] at hw ⊢;have hlen:x0.Deps.length<=4000000:=by
  have h1:=Ay8 (x0.Deps.map Aad);rw [List.length_map] at h1;simp only [Af3,wtL,wt] at hw;omega
 exact spec x0 x1 x2 ⟨Bm2 h0.1,fun d hd=>⟨Amk (h0.2.1.2 d hd).1,Amk (h0.2.1.2 d hd).2⟩,hlen,fun w hw=>Amk (h0.2.2.2 w hw)⟩ (Amk h2)
end drosslaw42_TractableErrors
end Go.Own
