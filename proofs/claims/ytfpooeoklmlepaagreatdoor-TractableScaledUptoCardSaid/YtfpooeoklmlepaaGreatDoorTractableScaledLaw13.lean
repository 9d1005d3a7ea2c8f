/- No conditions. -/
import Derived.Test.YtfpooeoklmlepaaGreatDoorTractableScaledLaw12
import Derived.Test.YtfpooeoklmlepaaGreatDoorTractableScaledLaw4
set_option linter.all false
namespace Go.Own
def depL (n:Nat) (L:List drossref09_Dep):List api_FD:=L.map fun x=>{ Lhs:=((sN x.L &&& (2^n-1):Nat):Int),Rhs:=((sN x.R &&& (2^n-1):Nat):Int) }
def Bg2 (L:List drossref09_Dep):Prop:=∀ x∈L,(0<=x.L/\x.L<256)/\0<=x.R/\x.R<256
theorem Azg {x:Int} (h:0<=x/\x<256) {n:Nat} (hn:n<=16):bAnd .u32 (IntKind.wrap .u32 x) ((2^n-1:Nat):Int)=((sN x &&& (2^n-1):Nat):Int):=by
 have hp:=Bgb hn;have e:x=((sN x:Nat):Int):=by unfold sN;omega
 have e2:IntKind.wrap .u32 x=((sN x:Nat):Int):=by
  conv=>lhs;rw [e]
  exact Aev (k:=.u32) (by simp only [top];unfold sN;omega)
 rw [e2];exact Agf (k:=.u32) (by simp only [top];unfold sN;omega) (by simp only [top];omega)
theorem Az6 {x n:Nat}:x &&& (2^n-1)<2^n:=by
 have:=Nat.and_le_right (n:=x) (m:=2^n-1);have:0<2^n:=Nat.pow_pos (by omega);omega
theorem q100_.spec {n:Nat} {L:List drossref09_Dep} (hn:n<=16) (hL:Bg2 L) (hlen:L.length<=4000000):q100_.C n L (depL n L):=by
 obtain ⟨r,h1,h2⟩:=q100_.enter n L (fun r=>r=depL n L) (by
  refine ⟨_,Bck hn,?_⟩;have:∀ (r:List drossref09_Dep) (k:Nat),L.drop k=r->k<=L.length->q100_.L1 L ((2^n-1:Nat):Int) (depL n (L.take k)) k (fun r=>r=depL n L):=by
   intro r
   induction r with
   | nil=>
    intro k hd hk;have:=Abv hd;apply q100_.L1_step;rw [if_neg (by omega),List.take_of_length_le (by omega)]
   | cons x r ih=>
    intro k hd hk;have hlt:=Abw hd;have hx:=hL x (List.mem_of_getElem? (Abg hd));have next:=ih (k+1) (Aau hd) (by omega);rw [List.take_add_one,Abg hd,Option.toList_some] at next;unfold depL at next;rw [List.map_append,List.map_cons,List.map_nil] at next;apply q100_.L1_step;rw [if_pos (by omega)];refine ⟨x,Abj hd,?_⟩;rw [Azg hx.1 hn,Azg hx.2 hn,Aa4 (by omega)];exact ⟨by unfold depL;rw [List.length_map,List.length_take];omega,next⟩
  exact this L 0 rfl (Nat.zero_le _))
 rw [← h1];exact h2
theorem Ay5:∀ (es:List (List D)),es.length<=wtLL es
 | []=>Nat.le_refl _
 | x::r=>by simp only [wtLL,List.length_cons];have:=Ay5 r;omega
theorem Bgt {n:Nat} {L:List drossref09_Dep} (hn:n<=16):FdOK (depL n L):=fun d hd=>by
 obtain ⟨x,_,rfl⟩:=List.mem_map.1 hd;have hp:=Bgb hn;exact ⟨U32.of (Nat.lt_of_lt_of_le Az6 (by omega)),U32.of (Nat.lt_of_lt_of_le Az6 (by omega))⟩
theorem Bes {n:Nat} {L:List drossref09_Dep}:(depL n L).length=L.length:=by simp [depL]
theorem Bm4 {x:drossref03_Recipe} (h:(okI .u8) x.Attrs/\(okI .u8) x.Gap/\(okL (okL (okI .u8))) x.Rows):RecOK x:=⟨Ap5 h.1,Ap5 h.2.1,fun r hr c hc=>Ap5 ((h.2.2.2 r hr).2 c hc)⟩
def wsF (R:Nat) (W:List Int):List Int:=if W.length<R then [] else (W.take R).map fun w=>1+w
structure CaseOK (x:drosslaw42_Case):Prop where
 tb:RecOK x.Table
 dp:Bg2 x.Deps
 dl:x.Deps.length<=4000000
 ww:∀ w∈x.Weights,0<=w/\w<256
namespace q29_
theorem tab_n {x:drossref03_Recipe} {most:Nat} (hx:RecOK x):(tabF x most).1.Attrs.length<=5:=by
 unfold tabF
 split
 ·have:=hx.at_;rw [Bbm (by omega)];omega
 ·simp
theorem tab_rows {x:drossref03_Recipe} {most:Nat}:(tabF x most).1.Rows.length<=most:=by
 unfold tabF
 split
 ·simp [Aje];assumption
 ·simp
theorem spec {x:drosslaw42_Case} (h:CaseOK x) {most:Nat} (hm:most<=1000):C x most ((tabF x.Table most).1,depL (tabF x.Table most).1.Attrs.length x.Deps,wsF (tabF x.Table most).1.Rows.length x.Weights,(tabF x.Table most).2&&decide ((x.Deps.length:Int)<=6)):=by
 have hn:=tab_n (most:=most) h.tb;have hr:=tab_rows (x:=x.Table) (most:=most);have ht:=q76_.spec (x:=x.Table) (most:=most) (by omega) h.tb;generalize tabF x.Table most=T at *;obtain ⟨t,ok⟩:=T;simp only at hn hr ht ⊢;have hd:=q100_.spec (n:=t.Attrs.length) (by omega) h.dp h.dl;generalize depL t.Attrs.length x.Deps=fds at hd ⊢;obtain ⟨r,h1,h2⟩:=enter x (most:Int) (fun r=>r=(t,fds,wsF t.Rows.length x.Weights,ok&&decide ((x.Deps.length:Int)<=6))) (by
  refine ⟨_,ht,_,hd,?_⟩;have fin:L3 x (t,ok) fds (wsF t.Rows.length x.Weights) (fun r=>r=(t,fds,wsF t.Rows.length x.Weights,ok&&decide ((x.Deps.length:Int)<=6))):=by
   apply L3_step;cases ok
   ·rw [if_neg (by simp)];simp
   ·rw [if_pos rfl];simp
  have go:∀ (d i:Nat),i+d=t.Rows.length->L1 x (t,ok) fds ((x.Weights.take i).map fun w=>1+w) i (fun r=>r=(t,fds,wsF t.Rows.length x.Weights,ok&&decide ((x.Deps.length:Int)<=6))):=by
   intro d
   induction d with
   | zero=>
    intro i hi;have:i=t.Rows.length:=by omega
    subst this;apply L1_step;rw [if_neg (by show ¬ ((t.Rows.length:Int)<(t.Rows.length:Int));omega)];show if ((((x.Weights.take t.Rows.length).map fun w=>1+w).length:Int)<(t.Rows.length:Int)) then _ else _
    unfold wsF at fin ⊢;by_cases hlt:x.Weights.length<t.Rows.length
    ·rw [if_pos hlt] at fin ⊢;rw [if_pos (by rw [List.length_map,List.length_take];omega)];exact fin
    ·rw [if_neg hlt] at fin ⊢;rw [if_neg (by rw [List.length_map,List.length_take];omega)];exact fin
   | succ d ih=>
    intro i hi;have:=ih (i+1) (by omega);apply L1_step;rw [if_pos (by show (i:Int)<(t.Rows.length:Int);omega)];by_cases hw:i<x.Weights.length
    ·rw [if_pos (by omega)];have hg:=List.getElem?_eq_getElem hw;have hb:=h.ww _ (List.getElem_mem hw);generalize x.Weights[i]=w at hg hb;refine ⟨w,Aa9 hg,by rw [List.length_map,List.length_take];omega,?_⟩;apply L2_step;rw [Aa4 (by omega),Ab6 (x:=w) (by omega) (by omega),Ab6 (by omega) (by omega)];rw [List.take_add_one,hg] at this;simpa using this
    ·rw [if_neg (by omega)];apply L2_step;rw [Aa4 (by omega)];rw [List.take_of_length_le (by omega)] at this ⊢;exact this
  exact go t.Rows.length 0 (by omega))
 rw [← h1];exact h2
end q29_
section
variable {t:api_Table} {fds:List api_FD} {ws:List Int}
namespace q31_
end q31_
theorem q56_.spec (h:OkT t fds ws) {i:Nat} (hi:i<t.Rows.length):q56_.C ws i (wtN ws i):=by
 obtain ⟨r,h1,h2⟩:=q56_.enter ws i (fun r=>r=wtN ws i) (by
  unfold wtN;by_cases h0:ws.length=0
  ·rw [if_pos (by omega),if_pos h0]
  ·have hl:=h.wl.resolve_left h0;have hg:=List.getElem?_eq_getElem (l:=ws) (i:=i) (by omega);rw [if_neg (by omega),if_neg h0,hg]
   exact ⟨_,Aa9 hg,rfl⟩)
 rw [← h1];exact h2
namespace q77_
def delN (t:api_Table) (ws:List Int) (x i:Nat):List Int:=((List.range i).filter fun j=>x.testBit j).map fun j=>(enT t ws j).row.ID
def sumN (ws:List Int) (x i:Nat):Int:=sumA (fun j=>if x.testBit j=true then wtN ws j else 0) i
def okN (t:api_Table) (fds:List api_FD) (ws:List Int) (x:Nat):Prop:=Ai8 eqE (DN fds) (entL t ws) fun e=>decide (e.row.ID ∉ delN t ws x t.Rows.length)
structure LB (t:api_Table) (fds:List api_FD) (ws:List Int) (k:Nat) (b:Int):Prop where
 is:(b = -1/\∀ y,y<k->¬ okN t fds ws y)∨∃ y,y<k/\okN t fds ws y/\sumN ws y t.Rows.length=b
 le:∀ y,y<k->okN t fds ws y->b<=sumN ws y t.Rows.length
end q77_
end
section
variable {t:api_Table} {fds:List api_FD} {ws:List Int}
structure CasT (x:drosslaw42_Case) (most:Nat) (t:api_Table) (fds:List api_FD) (ws:List Int):Prop where
 num:TNum t
 fd:FdOK fds
 few:fds.length<=6
 rows:t.Rows.length<=most
 n5:t.Attrs.length<=5
 wl:ws.length<=most
 eq:fds=depL t.Attrs.length x.Deps
theorem CasT.of {x:drosslaw42_Case} (h:CaseOK x) {most:Nat} (hm:most<=1000) (hok:((tabF x.Table most).2&&decide ((x.Deps.length:Int)<=6))=true):CasT x most (tabF x.Table most).1 (depL (tabF x.Table most).1.Attrs.length x.Deps) (wsF (tabF x.Table most).1.Rows.length x.Weights):=by
 rw [Bool.and_eq_true,decide_eq_true_eq] at hok;have hn:=q29_.tab_n (most:=most) h.tb;have hr:=q29_.tab_rows (x:=x.Table) (most:=most);refine ⟨?_,Bgt (by omega),by rw [Bes];omega,hr,hn,?_,rfl⟩
 ·unfold tabF
  split
  ·exact Bg1
  ·intro r hr;simp at hr
 ·unfold wsF
  split
  ·simp
  ·rw [List.length_map,List.length_take];omega
theorem CasT.okT {x:drosslaw42_Case} {most:Nat} (h:CasT x most t fds ws) (hm:most<=60) {ws2:List Int} (he:errT t fds ws2=0):OkT t fds ws2:=OkT.of he h.num h.fd (by have:=h.few;omega) (by have:=h.rows;omega)
end
theorem Bm8 {x:Int} (h:okI .u16 x):0<=x/\x<65536:=by
 have h1:=h.1;have h2:=h.2;have e1:IntKind.min .u16=0:=rfl;have e2:IntKind.max .u16=65535:=rfl;omega
namespace drosslaw42_TractableScaled
theorem again {φ:Bool->Prop} (h:φ true):L1 φ:=L1_step φ ⟨true,q78_.spec,h⟩
def moreW (t:api_Table) (ws:List Int) (c:Int) (i:Nat):List Int:=(List.range i).map fun j=>wtN ws j*c
theorem more_at {t:api_Table} {ws:List Int} {c:Int} {i:Nat} (hi:i<t.Rows.length):wtN (moreW t ws c t.Rows.length) i=wtN ws i*c:=by
 have hl:(moreW t ws c t.Rows.length).length=t.Rows.length:=by simp [moreW]
 unfold wtN;rw [if_neg (by omega)];unfold moreW;rw [List.getElem?_map,List.getElem?_range hi];rfl
theorem sumA_mul {f:Nat->Int} {c:Int}:∀ {n:Nat},sumA (fun i=>f i*c) n=sumA f n*c
 | 0=>by simp [sumA]
 | n+1=>by rw [Ab5,Ab5,sumA_mul,Int.add_mul]
variable {t:api_Table} {fds:List api_FD} {ws:List Int} {c:Int}
theorem cons_more {q:Nat->Bool} {us vs:List Int} {p1 p2:tractable_entry->Bool} (h1:∀ i,i<t.Rows.length->p1 (enT t us i)=q i) (h2:∀ i,i<t.Rows.length->p2 (enT t vs i)=q i) (hc:Ai8 eqE (DN fds) (entL t us) p1):Ai8 eqE (DN fds) (entL t vs) p2:=by
 intro r hr s hs pr ps d hd ha;obtain ⟨i,hi,rfl⟩:=Agh.1 hr;obtain ⟨j,hj,rfl⟩:=Agh.1 hs;exact hc (enT t us i) (Agh.2 ⟨i,hi,rfl⟩) (enT t us j) (Agh.2 ⟨j,hj,rfl⟩) (by rw [h1 i hi,← h2 i hi];exact pr) (by rw [h1 j hj,← h2 j hj];exact ps) d hd ha
theorem idx_of (h:OkT t fds ws) (p:tractable_entry->Bool) (us:List Int):∃ p2:tractable_entry->Bool,∀ i,i<t.Rows.length->p2 (enT t us i)=p (enT t ws i):=by
 refine ⟨fun e=>(List.range t.Rows.length).any fun j=>decide ((enT t ws j).row.ID=e.row.ID)&&p (enT t ws j),fun i hi=>?_⟩;rw [Bool.eq_iff_iff,List.any_eq_true];constructor
 ·rintro ⟨j,hj,hb⟩;rw [Bool.and_eq_true,decide_eq_true_eq] at hb;have hj:=List.mem_range.1 hj;have:j=i:=Bg6 (ws:=ws) h.tv hj hi (by rw [hb.1,Afs hi,Afs hi]);rw [← this];exact hb.2
 ·intro hb;refine ⟨i,List.mem_range.2 hi,?_⟩;rw [Bool.and_eq_true,decide_eq_true_eq];exact ⟨by rw [Afs hi,Afs hi],hb⟩
theorem wt_more (h:OkT t fds ws) (h2:OkT t fds (moreW t ws c t.Rows.length)) {p1 p2:tractable_entry->Bool} (hp:∀ i,i<t.Rows.length->p2 (enT t (moreW t ws c t.Rows.length) i)=p1 (enT t ws i)):wtA wE (entL t (moreW t ws c t.Rows.length)) p2=wtA wE (entL t ws) p1*c:=by
 rw [Be3,Be3,← sumA_mul];refine Acs fun i hi=>?_;have e1:wE (enT t ws i)=wtN ws i:=by have:=h.wt hi;show ((wtN ws i).toNat:Int)=_;omega
 have e2:wE (enT t (moreW t ws c t.Rows.length) i)=wtN ws i*c:=by
  have:=h2.wt hi;have e:=more_at (ws:=ws) (c:=c) hi;show ((wtN (moreW t ws c t.Rows.length) i).toNat:Int)=_;omega
 rw [hp i hi,e1,e2]
 split<;>simp
theorem spec (x:drosslaw42_Case) (c:Int) (h:CaseOK x) (hc:0<=c/\c<65536):C x c true:=by
 obtain ⟨r,h1,h2⟩:=enter x c (fun r=>r=true) (by
  refine ⟨_,q29_.spec h (most:=12) (by decide),true,q78_.spec,?_⟩;rw [if_pos rfl];by_cases hok:((tabF x.Table 12).2&&decide ((x.Deps.length:Int)<=6))=true
  ·rw [if_pos hok];have hT:=CasT.of h (most:=12) (by decide) hok;have hws:∀ w∈wsF (tabF x.Table 12).1.Rows.length x.Weights,w<=256:=fun w hw=>by
    unfold wsF at hw
    split at hw
    ·cases hw
    ·obtain ⟨v,hv,rfl⟩:=List.mem_map.1 hw;have:=h.ww v (List.mem_of_mem_take hv);omega
   generalize (tabF x.Table 12).1=t at hT hws ⊢;generalize depL t.Attrs.length x.Deps=fds at hT ⊢;generalize wsF t.Rows.length x.Weights=ws at hT hws ⊢;have hwl:=hT.wl;have hfl:=hT.few;have hrows:=hT.rows;rw [if_neg (by show ¬ ((12:Int)<(t.Rows.length:Int));omega)];by_cases c0:c=0
   ·rw [if_pos c0];exact again rfl
   rw [if_neg c0];by_cases c1:1000<c
   ·rw [if_pos c1];exact again rfl
   rw [if_neg c1];refine ⟨_,q75_.spec (t:=t) (ws:=ws) hT.fd (by show fds.length<1000000;omega) (by omega),?_⟩;by_cases he:errT t fds ws=0
   ·rw [if_pos he];have ho:=hT.okT (by decide) he;have hw256:∀ i,i<t.Rows.length->1<=wtN ws i/\wtN ws i<=256:=fun i hi=>by
     refine ⟨(ho.wt hi).1,?_⟩;unfold wtN
     split
     ·omega
     ·rename_i h0;have hl:=ho.wl.resolve_left h0;rw [List.getElem?_eq_getElem (by omega)];exact hws _ (List.getElem_mem _)
    have hcc:∀ i,i<t.Rows.length->1<=wtN ws i*c/\wtN ws i*c<=256000:=fun i hi=>by
     obtain ⟨a1,a2⟩:=hw256 i hi;have b1:1*1<=wtN ws i*c:=Int.mul_le_mul a1 (by omega) (by omega) (by omega);have b2:wtN ws i*c<=256*1000:=Int.mul_le_mul a2 (by omega) (by omega) (by omega);omega
    have he2:errT t fds (moreW t ws c t.Rows.length)=0:=by
     have hl:(moreW t ws c t.Rows.length).length=t.Rows.length:=by simp [moreW]
     have hnb:∀ {l:List Int},(∀ w∈l,1<=w/\w<=1000000)->l.any badW=false:=fun {l} hl=>by
      rw [List.any_eq_false];intro w hw;have:=hl w hw;unfold badW;simp;omega
     unfold errT at he ⊢;by_cases a0:Aeh t=0
     ·rw [if_pos a0] at he ⊢;by_cases a1:fdsE (t.Attrs.length:Int) fds=0
      ·rw [if_pos a1] at he ⊢;have hw1:=ho.wl;rw [if_neg (by omega),hnb ho.ww,if_neg Bool.false_ne_true] at he;rw [if_neg (by omega),hnb fun w hw=>?_,if_neg Bool.false_ne_true]
       ·exact he
       ·obtain ⟨j,hj,rfl⟩:=List.mem_map.1 hw;have:=hcc j (List.mem_range.1 hj);omega
      ·rw [if_neg a1] at he;exact absurd he a1
     ·rw [if_neg a0] at he;exact absurd he a0
    have ho2:=hT.okT (by decide) he2;obtain ⟨p,hp,hs⟩:=q98_.ok ho he;obtain ⟨q,hq,hs2⟩:=q98_.ok ho2 he2;have hbest:wtA wE (entL t (moreW t ws c t.Rows.length)) q=wtA wE (entL t ws) p*c:=by
     obtain ⟨p2,hp2⟩:=idx_of ho p (moreW t ws c t.Rows.length);obtain ⟨q2,hq2⟩:=idx_of ho2 q ws;have w1:=wt_more ho ho2 hp2;have w2:=wt_more ho ho2 (p1:=q2) (p2:=q) fun i hi=>(hq2 i hi).symm;have b1:=hq.best p2 (cons_more (q:=fun i=>p (enT t ws i)) (fun i _=>rfl) hp2 hp.cons);have b2:=hp.best q2 (cons_more (q:=fun i=>q (enT t (moreW t ws c t.Rows.length) i)) (fun i _=>rfl) hq2 hq.cons);have b3:wtA wE (entL t ws) q2*c<=wtA wE (entL t ws) p*c:=Int.mul_le_mul_of_nonneg_right b2 hc.1;omega
    have hall:allW t (moreW t ws c t.Rows.length)=allW t ws*c:=by
     unfold allW;rw [← sumA_mul];exact Acs fun i hi=>more_at hi
    have hb1:=Aml (f:=wtN ws) (n:=t.Rows.length) fun j hj=>by have:=ho.wt hj;omega
    have hb2:=Afx Agw (p:=p) (l:=entL t ws);have hb3:=Asw (p:=p) ho.en;rw [Am5] at hb3;have ec:IntKind.wrap .i64 c=c:=Ab6 (by omega) (by omega);have loop:∀ (d i:Nat),i+d=t.Rows.length->L2 c (t,fds,ws,((tabF x.Table 12).2&&decide ((x.Deps.length:Int)<=6))) (moreW t ws c i) i (fun r=>r=true):=by
     intro d
     induction d with
     | zero=>
      intro i hi;have:i=t.Rows.length:=by omega
      subst this;apply L2_step;rw [if_neg (by show ¬ ((t.Rows.length:Int)<(t.Rows.length:Int));omega)];refine ⟨_,hs,_,hs2,?_⟩;rw [if_pos rfl,if_pos rfl,ec];show (_ == _)=true;rw [beq_iff_eq];show allW t (moreW t ws c t.Rows.length)-wtA wE (entL t (moreW t ws c t.Rows.length)) q=IntKind.wrap .i64 ((allW t ws-wtA wE (entL t ws) p)*c);have m1:(allW t ws-wtA wE (entL t ws) p)*c=allW t ws*c-wtA wE (entL t ws) p*c:=Int.sub_mul ..;have hd : -12000000<=allW t ws-wtA wE (entL t ws) p/\allW t ws-wtA wE (entL t ws) p<=12000000:=by unfold allW;omega
      have m2:(allW t ws-wtA wE (entL t ws) p)*c<=12000000*c:=Int.mul_le_mul_of_nonneg_right hd.2 hc.1;have m3 : -12000000*c<=(allW t ws-wtA wE (entL t ws) p)*c:=Int.mul_le_mul_of_nonneg_right hd.1 hc.1;rw [Ab6 (by omega) (by omega),hbest,hall,m1]
     | succ d ih=>
      intro i hi;have hil:i<t.Rows.length:=by omega
      have hcb:=hcc i hil;apply L2_step;rw [if_pos (by show (i:Int)<(t.Rows.length:Int);omega)];refine ⟨_,q56_.spec ho hil,by simp only [moreW,List.length_map,List.length_range];omega,?_⟩;rw [ec,Ab6 (by omega) (by omega),Aa4 (by omega)];have:=ih (i+1) (by omega);unfold moreW at this ⊢;rw [List.range_succ,List.map_append] at this;exact this
    exact loop t.Rows.length 0 (by omega)
   ·rw [if_neg he];exact again rfl
  ·rw [if_neg hok]
   exact again rfl)
 subst h1;exact h2
theorem law {xs:List D} (hx:Alz env.P Ahs Aht xs) (hw:wtL xs<=1048576):Ret env Ahr xs (.lit (.bool true)) []:=by
 obtain ⟨x0,x1,h0,h1,e⟩:=Agy (P:=env.P) tf hx;rw [e] at hw ⊢;have hlen:x0.Deps.length<=4000000:=by
  have h1:=Ay5 (x0.Deps.map Aad);rw [List.length_map] at h1;simp only [Af3,wtL,wt] at hw;omega
 exact spec x0 x1 ⟨Bm4 h0.1,fun d hd=>⟨Ap5 (h0.2.1.2 d hd).1,Ap5 (h0.2.1.2 d hd).2⟩,hlen,fun w hw=>Ap5 (h0.2.2.2 w hw)⟩ (Bm8 h1)
end drosslaw42_TractableScaled
end Go.Own
