/- No conditions. -/
import Derived.Test.YtfpooeoklmlepaaGreatDoorTractableSolveLaw12
import Derived.Test.YtfpooeoklmlepaaGreatDoorTractableSolveLaw5
set_option linter.all false
open List renaming getElem?_eq_getElem->zA,length_map->zB,length_filter_le->zC,mem_filter->zD,length_take->zE,map_append->zF,getElem_mem->zG,range->zI,mem_range->zK,take_of_length_le->zL,mem_of_getElem?->zM,mem_map->zN,getElem_of_mem->zO,filter_append->zP,take_add_one->zQ,sum_append->zR,length_append->zT,range_succ->zU
open Nat renaming le_trans->zH,lt_of_lt_of_le->zS
open Bool renaming eq_iff_iff->zV
namespace Go.Own
def depL(n:Nat)(L:List drossref09_Dep):List api_FD:=L.map fun x=>{ Lhs:=((sN x.L &&& (2^n-1):Nat):Int),Rhs:=((sN x.R &&& (2^n-1):Nat):Int) }
def Bgv(L:List drossref09_Dep):Prop:=∀x∈L,(0<=x.L/\x.L<256)/\0<=x.R/\x.R<256
theorem Ba5{x:Int}(h:0<=x/\x<256){n:Nat}(hn:n<=16):bAnd .u32 (IntKind.wrap .u32 x) ((2^n-1:Nat):Int)=((sN x &&& (2^n-1):Nat):Int):=by
 have hp:=Bh3 hn;have e:x=((sN x:Nat):Int):=by unfold sN;omega
 have e2:IntKind.wrap .u32 x=((sN x:Nat):Int):=by
  conv=>lhs;rw[e]
  exact Af1 (k:=.u32) (by simp only[top];unfold sN;omega)
 rw[e2];exact Afh (k:=.u32) (by simp only[top];unfold sN;omega) (by simp only[top];omega)
theorem Azw{x n:Nat}:x &&& (2^n-1)<2^n:=by
 have:=Nat.and_le_right (n:=x) (m:=2^n-1);have:0<2^n:=Nat.pow_pos (by omega);omega
theorem q101_.spec{n:Nat}{L:List drossref09_Dep}(hn:n<=16)(hL:Bgv L)(hlen:L.length<=4000000):q101_.C n L (depL n L):=by
 obtain⟨r,h1,h2⟩:=q101_.enter n L (fun r=>r=depL n L) (by
  refine⟨_,Bd9 hn,?_⟩;have:∀(r:List drossref09_Dep)(k:Nat),L.drop k=r->k<=L.length->q101_.L1 L ((2^n-1:Nat):Int) (depL n (L.take k)) k (fun r=>r=depL n L):=by
   intro r
   induction r with
   |nil=>
    intro k hd hk;have:=Ab7 hd;apply q101_.L1_step;rw[if_neg (by omega),zL (by omega)]
   |cons x r ih=>
    intro k hd hk;have hlt:=Ab8 hd;have hx:=hL x (zM (Aax hd));have next:=ih (k+1) (Aap hd) (by omega);rw[zQ,Aax hd,Option.toList_some]at next;unfold depL at next;rw[zF,List.map_cons,List.map_nil]at next;apply q101_.L1_step;rw[if_pos (by omega)];refine⟨x,Ab6 hd,?_⟩;rw[Ba5 hx.1 hn,Ba5 hx.2 hn,Aa4 (by omega)];exact⟨by unfold depL;rw[zB,zE];omega,next⟩
  exact this L 0 rfl (Nat.zero_le _))
 rw[<-h1];exact h2
theorem Ayv:∀(es:List (List D)),es.length<=wtLL es
 |[]=>Nat.le_refl _
 |x::r=>by simp only[wtLL,List.length_cons];have:=Ayv r;omega
theorem Bhl{n:Nat}{L:List drossref09_Dep}(hn:n<=16):FdOK (depL n L):=fun d hd=>by
 obtain⟨x,_,rfl⟩:=zN.1 hd;have hp:=Bh3 hn;exact⟨U32.of (zS Azw (by omega)),U32.of (zS Azw (by omega))⟩
theorem Bfj{n:Nat}{L:List drossref09_Dep}:(depL n L).length=L.length:=by simp[depL]
theorem Bmx{x:drossref03_Recipe}(h:(okI .u8) x.Attrs/\(okI .u8) x.Gap/\(okL (okL (okI .u8))) x.Rows):RecOK x:=⟨Apg h.1,Apg h.2.1,fun r hr c hc=>Apg ((h.2.2.2 r hr).2 c hc)⟩
def wsF(R:Nat)(W:List Int):List Int:=if W.length<R then[]else(W.take R).map fun w=>1+w
structure CaseOK(x:drosslaw42_Case):Prop where
 tb:RecOK x.Table
 dp:Bgv x.Deps
 dl:x.Deps.length<=4000000
 ww:∀w∈x.Weights,0<=w/\w<256
namespace q29_
theorem tab_n{x:drossref03_Recipe}{most:Nat}(hx:RecOK x):(tabF x most).1.Attrs.length<=5:=by
 unfold tabF
 split
 .have:=hx.at_;rw[Bca (by omega)];omega
 .simp
theorem tab_rows{x:drossref03_Recipe}{most:Nat}:(tabF x most).1.Rows.length<=most:=by
 unfold tabF
 split
 .simp [Ajh];assumption
 .simp
theorem spec{x:drosslaw42_Case}(h:CaseOK x){most:Nat}(hm:most<=1000):C x most ((tabF x.Table most).1,depL (tabF x.Table most).1.Attrs.length x.Deps,wsF (tabF x.Table most).1.Rows.length x.Weights,(tabF x.Table most).2&&decide ((x.Deps.length:Int)<=6)):=by
 have hn:=tab_n (most:=most) h.tb;have hr:=tab_rows (x:=x.Table) (most:=most);have ht:=q77_.spec (x:=x.Table) (most:=most) (by omega) h.tb;generalize tabF x.Table most=T at *;obtain⟨t,ok⟩:=T;simp only at hn hr ht⊢;have hd:=q101_.spec (n:=t.Attrs.length) (by omega) h.dp h.dl;generalize depL t.Attrs.length x.Deps=fds at hd⊢;obtain⟨r,h1,h2⟩:=enter x (most:Int) (fun r=>r=(t,fds,wsF t.Rows.length x.Weights,ok&&decide ((x.Deps.length:Int)<=6))) (by
  refine⟨_,ht,_,hd,?_⟩;have fin:L3 x (t,ok) fds (wsF t.Rows.length x.Weights) (fun r=>r=(t,fds,wsF t.Rows.length x.Weights,ok&&decide ((x.Deps.length:Int)<=6))):=by
   apply L3_step;cases ok
   .rw [if_neg (by simp)];simp
   .rw [if_pos rfl];simp
  have go:∀(d i:Nat),i+d=t.Rows.length->L1 x (t,ok) fds ((x.Weights.take i).map fun w=>1+w) i (fun r=>r=(t,fds,wsF t.Rows.length x.Weights,ok&&decide ((x.Deps.length:Int)<=6))):=by
   intro d
   induction d with
   |zero=>
    intro i hi;have:i=t.Rows.length:=by omega
    subst this;apply L1_step;rw[if_neg (by show ¬((t.Rows.length:Int)<(t.Rows.length:Int));omega)];show if((((x.Weights.take t.Rows.length).map fun w=>1+w).length:Int)<(t.Rows.length:Int))then _ else _
    unfold wsF at fin⊢;by_cases hlt:x.Weights.length<t.Rows.length
    .rw [if_pos hlt]at fin⊢;rw[if_pos (by rw[zB,zE];omega)];exact fin
    .rw [if_neg hlt]at fin⊢;rw[if_neg (by rw[zB,zE];omega)];exact fin
   |succ d ih=>
    intro i hi;have:=ih (i+1) (by omega);apply L1_step;rw[if_pos (by show(i:Int)<(t.Rows.length:Int);omega)];by_cases hw:i<x.Weights.length
    .rw [if_pos (by omega)];have hg:=zA hw;have hb:=h.ww _ (zG hw);generalize x.Weights[i]=w at hg hb;refine⟨w,Aa8 hg,by rw[zB,zE];omega,?_⟩;apply L2_step;rw[Aa4 (by omega),Abb (x:=w) (by omega) (by omega),Abb (by omega) (by omega)];rw[zQ,hg]at this;simpa using this
    .rw [if_neg (by omega)];apply L2_step;rw[Aa4 (by omega)];rw[zL (by omega)]at this⊢;exact this
  exact go t.Rows.length 0 (by omega))
 rw[<-h1];exact h2
end q29_
theorem Ayh{t:api_Table}(ht:TV t){l r:Nat}(hl:l<2^32)(hr:r<2^32):SatP t l r↔∀x∈t.Rows,∀y∈t.Rows,(∀k,l.testBit k=true->x.Values[k]?=y.Values[k]?)->∀k,r.testBit k=true->x.Values[k]?=y.Values[k]?:=by
 constructor
 .intro h x hx y hy ha;obtain⟨i,hi,rfl⟩:=zO hx;obtain⟨j,hj,rfl⟩:=zO hy;exact(Amo ht hr hi hj).1 (h.all hi hj ((Amo ht hl hi hj).2 ha))
 .intro h i k hi hk he;have hkl:k<t.Rows.length:=by omega
  exact(Amo ht hr hi hkl).2 (h _ (zG hi) _ (zG hkl) ((Amo ht hl hi hkl).1 he))
def Amr(t:api_Table)(del:List Int):api_Table:=⟨t.Name,t.Attrs,t.Rows.filter fun r=>!decide (r.ID∈del)⟩
theorem Ayf{t:api_Table}(h:TV t){del:List Int}:TV (Amr t del) where
 name:=h.name
 na:=h.na
 nr:=zH (zC _ _) h.nr
 names:=h.names
 rows:=Bed List.filter_sublist h.rows
section
variable{t:api_Table}{fds:List api_FD}{ws:List Int}
theorem Aur(h:OkT t fds ws){del:List Int}:(∀d∈fds,SatP (Amr t del) (sN d.Lhs) (sN d.Rhs))↔Aez eqE (DN fds) (entL t ws) fun e=>decide (e.row.ID ∉ del):=by
 have hT:=Ayf h.tv (del:=del);have row:∀{e},e∈entL t ws->decide (e.row.ID ∉ del)=true->e.row∈(Amr t del).Rows:=fun {e} he hp=>by
  obtain⟨i,hi,rfl⟩:=Agk.1 he;have hp:=of_decide_eq_true hp;rw[Acj hi]at hp⊢;exact zD.2 ⟨zG hi,by simpa using hp⟩
 constructor
 .intro hs r hr u hu hpr hpu d hd ha;obtain⟨x,hx,rfl⟩:=zN.1 hd;have hx':=h.fd x hx;exact(Ayh hT hx'.1.lt hx'.2.lt).1 (hs x hx) _ (row hr hpr) _ (row hu hpu) ha
 .intro hc d hd;have hd':=h.fd d hd;refine(Ayh hT hd'.1.lt hd'.2.lt).2 fun x hx y hy ha=>?_;have en:∀{x},x∈(Amr t del).Rows->∃e∈entL t ws,e.row=x/\decide (e.row.ID ∉ del)=true:=fun {x} hx=>by
   obtain⟨hx,hp⟩:=zD.1 hx;obtain⟨i,hi,rfl⟩:=zO hx;refine⟨_,Agk.2 ⟨i,hi,rfl⟩,Acj hi,?_⟩;rw[Acj hi];simpa using hp
  obtain⟨e,he,rfl,hpe⟩:=en hx;obtain⟨f,hf,rfl,hpf⟩:=en hy;exact hc e he f hf hpe hpf (sN d.Lhs,sN d.Rhs) (zN.2 ⟨d,hd,rfl⟩) ha
namespace q31_
theorem spec(h:OkT t fds ws){del:List Int}(hdel:del.length<=1000):∃b,C t fds del b/\(b=true↔Aez eqE (DN fds) (entL t ws) fun e=>decide (e.row.ID ∉ del)):=by
 have h60:=h.n60;have h12:=h.few;have hT:=Ayf h.tv (del:=del);obtain⟨b,h1,h2⟩:=enter t fds del (fun b=>b=true↔Aez eqE (DN fds) (entL t ws) fun e=>decide (e.row.ID ∉ del)) (by
  refine⟨_,q98_.spec (t:=t) (l:=[]) (by have:=h.tv.na;omega) (by simp) (by simp),?_⟩;have third:∀(d k:Nat),k+d=fds.length->(∀j x,j<k->fds[j]?=some x->SatP (Amr t del) (sN x.Lhs) (sN x.Rhs))->L3 fds ⟨t.Name,t.Attrs,[]⟩ (Amr t del).Rows k (fun b=>b=true↔Aez eqE (DN fds) (entL t ws) fun e=>decide (e.row.ID ∉ del)):=by
   intro d
   induction d with
   |zero=>
    intro k hk hs;apply L3_step;rw[if_neg (by omega),<-Aur h];simp only[true_iff];intro x hx;obtain⟨j,hj⟩:=List.getElem?_of_mem hx;exact hs j x (by have:=(List.getElem?_eq_some_iff.1 hj).1;omega) hj
   |succ d ih=>
    intro k hk hs;have hg:=zA (l:=fds) (i:=k) (by omega);have hx:=h.fd _ (zM hg);generalize fds[k]'(by omega)=x at hg hx;apply L3_step;rw[if_pos (by omega)];obtain⟨b,hb,hbi⟩:=q30_.spec (t:=Amr t del) (fd:=x) hT hx.1.eq hx.2.eq hx.1.lt hx.2.lt;refine⟨x,Aa8 hg,b,hb,?_⟩;by_cases hbt:b=true
    .rw [if_pos hbt,Aa4 (by omega)];refine ih (k+1) (by omega) fun j y hj hy=>?_;by_cases e:j=k
     .subst e;rw[hg]at hy;cases hy;exact hbi.1 hbt
     .exact hs j y (by omega) hy
    .rw [if_neg hbt,<-Aur h];simp only[Bool.false_eq_true,false_iff];exact fun hh=>hbt (hbi.2 (hh x (zM hg)))
  have first:∀(d i:Nat),i+d=t.Rows.length->L1 t fds del ⟨t.Name,t.Attrs,[]⟩ ((t.Rows.take i).filter fun r=>!decide (r.ID∈del)) i (fun b=>b=true↔Aez eqE (DN fds) (entL t ws) fun e=>decide (e.row.ID ∉ del)):=by
   intro d
   induction d with
   |zero=>
    intro i hi;apply L1_step;rw[if_neg (by omega),zL (by omega)];exact third fds.length 0 (by omega) fun j x hj=>by omega
   |succ d ih=>
    intro i hi;have hil:i<t.Rows.length:=by omega
    have hg:=zA hil;have hlen:((t.Rows.take i).filter fun r=>!decide (r.ID∈del)).length<=i:=zH (zC _ _) (by rw[zE];omega);have hn:=ih (i+1) (by omega);rw[zQ,hg,zP]at hn;generalize t.Rows[i]=x at hg hn;apply L1_step;rw[if_pos (by omega)];refine⟨x,Aa8 hg,_,q107_.spec (by omega),?_⟩;by_cases hx:x.ID∈del
    .rw [if_pos (decide_eq_true hx)];apply L2_step;rw[Aa4 (by omega)];simpa[hx]using hn
    .rw [if_neg (by simpa using hx)];refine⟨by omega,?_⟩;apply L2_step;rw[Aa4 (by omega)];simpa[hx]using hn
  exact first t.Rows.length 0 (by omega))
 exact⟨b,h2,h1⟩
end q31_
theorem q56_.spec(h:OkT t fds ws){i:Nat}(hi:i<t.Rows.length):q56_.C ws i (wtN ws i):=by
 obtain⟨r,h1,h2⟩:=q56_.enter ws i (fun r=>r=wtN ws i) (by
  unfold wtN;by_cases h0:ws.length=0
  .rw [if_pos (by omega),if_pos h0]
  .have hl:=h.wl.resolve_left h0;have hg:=zA (l:=ws) (i:=i) (by omega);rw[if_neg (by omega),if_neg h0,hg]
   exact⟨_,Aa8 hg,rfl⟩)
 rw[<-h1];exact h2
theorem Axg{g:Nat->Bool}{f:Nat->Int}:∀{n:Nat},(((zI n).filter g).map f).sum=sumA (fun i=>if g i=true then f i else 0) n
 |0=>rfl
 |n+1=>by
  rw[zU,zP,zF,zR,Axg,Abc];by_cases h:g n=true
  .simp [h]
  .simp [h]
theorem Arc(h:OkT t fds ws){q:tractable_entry->Bool}{g:Nat->Bool}(hq:∀i,i<t.Rows.length->q (enT t ws i)=!g i):wtA wE (entL t ws) q+sumA (fun i=>if g i=true then wtN ws i else 0) t.Rows.length=allW t ws:=by
 unfold allW;rw[Bn3,<-Ak8];refine Ad3 fun i hi=>?_;have hw:wE (enT t ws i)=wtN ws i:=by
  have:=h.wt hi;show((wtN ws i).toNat:Int)=_;omega
 rw[hq i hi,hw];cases g i<;>simp
theorem Arn{D:List (Nat×Nat)}{L:List tractable_entry}{p q:tractable_entry->Bool}(h:∀e∈L,p e=q e)(hc:Aez eqE D L p):Aez eqE D L q:=fun r hr u hu hr2 hu2=>hc r hr u hu (by rw[h r hr];exact hr2) (by rw[h u hu];exact hu2)
namespace q78_
def delN(t:api_Table)(ws:List Int)(x i:Nat):List Int:=((zI i).filter fun j=>x.testBit j).map fun j=>(enT t ws j).row.ID
def sumN(ws:List Int)(x i:Nat):Int:=sumA (fun j=>if x.testBit j=true then wtN ws j else 0) i
def okN(t:api_Table)(fds:List api_FD)(ws:List Int)(x:Nat):Prop:=Aez eqE (DN fds) (entL t ws) fun e=>decide (e.row.ID ∉ delN t ws x t.Rows.length)
theorem del_mem(h:OkT t fds ws){x i:Nat}(hi:i<t.Rows.length):(enT t ws i).row.ID∈delN t ws x t.Rows.length↔x.testBit i=true:=by
 unfold delN;rw[zN];constructor
 .rintro ⟨j,hj,e⟩;obtain⟨hj,hb⟩:=zD.1 hj;rw[<-Awc h.tv (zK.1 hj) hi e];exact hb
 .exact fun hb=>⟨i,zD.2 ⟨zK.2 hi,hb⟩,rfl⟩
theorem keep_at(h:OkT t fds ws){x i:Nat}(hi:i<t.Rows.length):decide ((enT t ws i).row.ID ∉ delN t ws x t.Rows.length)=!x.testBit i:=by
 rw[zV,decide_eq_true_eq,del_mem h hi];simp
structure LB(t:api_Table)(fds:List api_FD)(ws:List Int)(k:Nat)(b:Int):Prop where
 is:(b = -1/\∀y,y<k->¬okN t fds ws y)∨∃y,y<k/\okN t fds ws y/\sumN ws y t.Rows.length=b
 le:∀y,y<k->okN t fds ws y->b<=sumN ws y t.Rows.length
theorem spec(h:OkT t fds ws)(h12:t.Rows.length<=12){p:tractable_entry->Bool}(hb:BestA eqE wE (DN fds) (entL t ws) p):C t fds ws (allW t ws-wtA wE (entL t ws) p):=by
 have h60:=h.n60;have hp2:2^t.Rows.length<=2^12:=Nat.pow_le_pow_right (by decide) h12;have e1:shlw .i64 1 (t.Rows.length:Int)=((2^t.Rows.length:Nat):Int):=Ar4 (k:=.i64) (by simp only[top];omega);have sb:∀{x i:Nat},i<=t.Rows.length->0<=sumN ws x i/\sumN ws x i<=1000000*(i:Int):=fun {x i} hi=>Amx fun j hj=>by
  have:=h.wt (i:=j) (by omega)
  split<;>omega
 obtain⟨r,h1,h2⟩:=enter t fds ws (fun r=>r=allW t ws-wtA wE (entL t ws) p) (by
  have outer:∀(d k:Nat)(b:Int),k+d=2^t.Rows.length->LB t fds ws k b->L1 t fds ws b k (fun r=>r=allW t ws-wtA wE (entL t ws) p):=by
   intro d
   induction d with
   |zero=>
    intro k b hk hL;have:k=2^t.Rows.length:=by omega
    subst this;apply L1_step;refine⟨by omega,?_⟩;rw[e1,if_neg (by omega)];have low:∀y,okN t fds ws y->allW t ws-wtA wE (entL t ws) p<=sumN ws y t.Rows.length:=fun y hy=>by
     have h1:=Arc h (q:=fun e=>decide (e.row.ID ∉ delN t ws y t.Rows.length)) (g:=fun i=>y.testBit i) fun i hi=>keep_at h hi;have h2:=hb.best _ hy;unfold sumN;omega
    obtain⟨y0,hy0⟩:=Ay3 (fun i=>p (enT t ws i)=false) t.Rows.length;have hlt:y0<2^t.Rows.length:=Nat.lt_pow_two_of_testBit y0 fun i hi=>by
     cases hc:y0.testBit i with
     |false=>rfl
     |true=>have:=((hy0 i).1 hc).1;omega
    have hat:∀i,i<t.Rows.length->p (enT t ws i)=!y0.testBit i:=fun i hi=>by
     cases hc:p (enT t ws i)with
     |false=>rw[(hy0 i).2 ⟨hi,hc⟩];rfl
     |true=>
      cases hb2:y0.testBit i with
      |false=>rfl
      |true=>have:=((hy0 i).1 hb2).2;rw[hc]at this;cases this
    have hok:okN t fds ws y0:=Arn (p:=p) (fun e he=>by
     obtain⟨i,hi,rfl⟩:=Agk.1 he
     rw[hat i hi,keep_at h hi]) hb.cons
    have hsum:sumN ws y0 t.Rows.length=allW t ws-wtA wE (entL t ws) p:=by
     have:=Arc h (q:=p) (g:=fun i=>y0.testBit i) hat;unfold sumN;omega
    have h3:=hL.le y0 hlt hok;rcases hL.is with⟨_,hno⟩|⟨y,_,hyo,e⟩
    .exact absurd hok (hno y0 hlt)
    .have:=low y hyo;omega
   |succ d ih=>
    intro k b hk hL;apply L1_step;refine⟨by omega,?_⟩;rw[e1,if_pos (by omega)];have hkt:k<2^top .i64:=by simp only[top];omega
    have done:∀b2:Int,LB t fds ws (k+1) b2->L4 t fds ws b2 k (fun r=>r=allW t ws-wtA wE (entL t ws) p):=fun b2 hL2=>by
     apply L4_step;rw[Aa4 (by omega)];exact ih (k+1) b2 (by omega) hL2
    have same:(okN t fds ws k->b<=sumN ws k t.Rows.length/\b≠-1)->LB t fds ws (k+1) b:=fun hno=>by
     refine⟨?_,fun y hy ho=>?_⟩
     .rcases hL.is with⟨e,hn⟩|⟨y,hy,ho,e⟩
      .refine .inl ⟨e,fun y hy ho=>?_⟩;by_cases hyk:y=k
       .subst hyk;exact(hno ho).2 e
       .exact hn y (by omega) ho
      .exact .inr ⟨y,by omega,ho,e⟩
     .by_cases hyk:y=k
      .subst hyk;exact(hno ho).1
      .exact hL.le y (by omega) ho
    have new:okN t fds ws k->(b<0∨sumN ws k t.Rows.length<b)->LB t fds ws (k+1) (sumN ws k t.Rows.length):=fun ho hlt=>by
     refine⟨.inr ⟨k,by omega,ho,rfl⟩,fun y hy hyo=>?_⟩;by_cases hyk:y=k
     .subst hyk;exact Int.le_refl _
     .rcases hlt with hlt|hlt
      .rcases hL.is with⟨_,hn⟩|⟨z,_,_,e⟩
       .exact absurd hyo (hn y (by omega))
       .have:=(sb (x:=z) (Nat.le_refl _)).1;omega
      .have:=hL.le y (by omega) hyo;omega
    have inner:∀(c i:Nat),i+c=t.Rows.length->L2 t fds ws b k (delN t ws k i) (sumN ws k i) i (fun r=>r=allW t ws-wtA wE (entL t ws) p):=by
     intro c
     induction c with
     |zero=>
      intro i hi;have:i=t.Rows.length:=by omega
      subst this;apply L2_step;rw[if_neg (by omega)];obtain⟨s,hs,hsi⟩:=q31_.spec h (del:=delN t ws k t.Rows.length) (by unfold delN;rw[zB];exact zH (zC _ _) (by simp;omega));have ask:(b<0∨sumN ws k t.Rows.length<b)->(if s=true then L5 t fds ws k (sumN ws k t.Rows.length) (fun r=>r=allW t ws-wtA wE (entL t ws) p)else L4 t fds ws b k (fun r=>r=allW t ws-wtA wE (entL t ws) p)):=fun hlt=>by
       by_cases hst:s=true
       .rw [if_pos hst];apply L5_step;exact done _ (new (hsi.1 hst) hlt)
       .rw [if_neg hst];exact done b (same fun ho=>absurd (hsi.2 ho) hst)
      by_cases h0:b<0
      .rw [if_pos h0];exact⟨s,hs,ask (.inl h0)⟩
      .rw [if_neg h0];by_cases h3:sumN ws k t.Rows.length<b
       .rw [if_pos h3];exact⟨s,hs,ask (.inr h3)⟩
       .rw [if_neg h3];exact done b (same fun _=>by omega)
     |succ c ihc=>
      intro i hi;have hil:i<t.Rows.length:=by omega
      have hg:=zA hil;have hw:=h.wt hil;have hsb:=sb (x:=k) (i:=i) (by omega);have hn:=ihc (i+1) (by omega);have hdl:(delN t ws k i).length<=i:=by unfold delN;rw[zB];exact zH (zC _ _) (by simp)
      have eb:bAnd .i64 (shrw .i64 (k:Int) (i:Int)) 1=(((k / 2^i)%2:Nat):Int):=by
       rw[Aed hkt];have:=Afh (k:=.i64) (a:=k / 2^i) (b:=1) (Nat.lt_of_le_of_lt (Nat.div_le_self _ _) hkt) (by decide);rw[show((1:Nat):Int)=1 from rfl,Nat.and_one_is_mod]at this;exact this
      have hbit:(k / 2^i)%2=1↔k.testBit i=true:=by
       rw[Nat.testBit_eq_decide_div_mod_eq,decide_eq_true_eq]
      have ed:delN t ws k (i+1)=if k.testBit i=true then delN t ws k i++[(enT t ws i).row.ID]else delN t ws k i:=by
       unfold delN;rw[zU,zP,zF];by_cases hb:k.testBit i=true<;>simp[hb]
      have es:sumN ws k (i+1)=sumN ws k i+if k.testBit i=true then wtN ws i else 0:=Abc
      rw[ed,es]at hn;apply L2_step;rw[if_pos (by omega)];refine⟨by omega,?_⟩;rw[eb];by_cases hbt:k.testBit i=true
      .rw [if_pos (by rw[hbit.2 hbt];rfl)];rw[if_pos hbt,if_pos hbt]at hn;refine⟨_,Aa8 hg,by omega,_,q56_.spec h hil,?_⟩;apply L3_step;rw[Aa4 (by omega),Abb (by omega) (by omega)];rw[Acj hil]at hn;exact hn
      .rw [if_neg (fun hh=>hbt (hbit.1 (by omega)))];rw[if_neg hbt,if_neg hbt,Int.add_zero]at hn;apply L3_step;rw[Aa4 (by omega)];exact hn
    exact inner t.Rows.length 0 (by omega)
  exact outer (2^t.Rows.length) 0 (-1) (by omega) ⟨.inl ⟨rfl,fun y hy=>by omega⟩,fun y hy=>by omega⟩)
 rw[<-h1];exact h2
end q78_
end
section
variable{t:api_Table}{fds:List api_FD}{ws:List Int}
theorem Bjm(h:OkT t fds ws){p:tractable_entry->Bool}{i:Nat}(hi:i<t.Rows.length):(t.Rows[i]).ID∈outL t ws p↔p (enT t ws i)=false:=by
 unfold outL;rw[zN,<-Acj (ws:=ws) hi];constructor
 .rintro ⟨j,hj,e⟩;obtain⟨hj,hb⟩:=zD.1 hj;rw[Awc h.tv (zK.1 hj) hi e]at hb;simpa using hb
 .exact fun hb=>⟨i,zD.2 ⟨zK.2 hi,by simpa using hb⟩,rfl⟩
theorem Bgb(h:OkT t fds ws){p:tractable_entry->Bool}:∀e∈entL t ws,decide (e.row.ID ∉ outL t ws p)=p e:=fun e he=>by
 obtain⟨i,hi,rfl⟩:=Agk.1 he;rw[Acj hi,zV,decide_eq_true_eq,Bjm h hi];simp
theorem Bjl{p:tractable_entry->Bool}:(outL t ws p).length<=t.Rows.length:=by
 unfold outL;rw[zB];exact zH (zC _ _) (by simp)
structure CasT(x:drosslaw42_Case)(most:Nat)(t:api_Table)(fds:List api_FD)(ws:List Int):Prop where
 num:TNum t
 fd:FdOK fds
 few:fds.length<=6
 rows:t.Rows.length<=most
 n5:t.Attrs.length<=5
 wl:ws.length<=most
 eq:fds=depL t.Attrs.length x.Deps
theorem CasT.of{x:drosslaw42_Case}(h:CaseOK x){most:Nat}(hm:most<=1000)(hok:((tabF x.Table most).2&&decide ((x.Deps.length:Int)<=6))=true):CasT x most (tabF x.Table most).1 (depL (tabF x.Table most).1.Attrs.length x.Deps) (wsF (tabF x.Table most).1.Rows.length x.Weights):=by
 rw[Bool.and_eq_true,decide_eq_true_eq]at hok;have hn:=q29_.tab_n (most:=most) h.tb;have hr:=q29_.tab_rows (x:=x.Table) (most:=most);refine⟨?_,Bhl (by omega),by rw[Bfj];omega,hr,hn,?_,rfl⟩
 .unfold tabF
  split
  .exact Bgu
  .intro r hr;simp at hr
 .unfold wsF
  split
  .simp
  .rw [zB,zE];omega
theorem CasT.okT{x:drosslaw42_Case}{most:Nat}(h:CasT x most t fds ws)(hm:most<=60){ws2:List Int}(he:errT t fds ws2=0):OkT t fds ws2:=OkT.of he h.num h.fd (by have:=h.few;omega) (by have:=h.rows;omega)
end
theorem q102_.spec{t:api_Table}(ht:TV t){i:Nat}(hi:i<t.Rows.length):q102_.C t (t.Rows[i]).ID (i,true):=by
 have hnr:=ht.nr;obtain⟨r,h1,h2⟩:=q102_.enter t (t.Rows[i]).ID (fun r=>r=((i:Int),true)) (by
  have go:∀(d k:Nat),k+d=i->q102_.L1 t (t.Rows[i]).ID k (fun r=>r=((i:Int),true)):=by
   intro d
   induction d with
   |zero=>
    intro k hk;have:k=i:=by omega
    subst this;apply q102_.L1_step;rw[if_pos (by omega)];refine⟨_,Aa8 (zA hi),?_⟩;rw[if_pos rfl]
   |succ d ih=>
    intro k hk;have hkl:k<t.Rows.length:=by omega
    apply q102_.L1_step;rw[if_pos (by omega)];refine⟨_,Aa8 (zA hkl),?_⟩;rw[if_neg fun e=>?_,Aa4 (by omega)]
    .exact ih (k+1) (by omega)
    .have:=Awc (ws:=[]) ht hkl hi (by rw[Acj hkl,Acj hi];exact e);omega
  exact go i 0 (by omega))
 rw[<-h1];exact h2
theorem q57_.spec{t:api_Table}{fds:List api_FD}{ws:List Int}(h:OkT t fds ws){g:Nat->Bool}:q57_.C t ws (((zI t.Rows.length).filter g).map fun i=>(enT t ws i).row.ID) (sumA (fun i=>if g i=true then wtN ws i else 0) t.Rows.length,true):=by
 have h60:=h.n60;have hF:∀i∈(zI t.Rows.length).filter g,i<t.Rows.length:=fun i hi=>zK.1 (zD.1 hi).1;have hS:((zI t.Rows.length).filter g).Pairwise (·<·):=List.pairwise_lt_range.filter _;have hFl:((zI t.Rows.length).filter g).length<=t.Rows.length:=zH (zC _ _) (by simp);rw[<-Axg];generalize(zI t.Rows.length).filter g=F at *;obtain⟨r,h1,h2⟩:=q57_.enter t ws (F.map fun i=>(enT t ws i).row.ID) (fun r=>r=((F.map (wtN ws)).sum,true)) (by
  have go:∀(r q:List Nat)(last:Int),q++r=F->(∀i∈r,last<(enT t ws i).row.ID)->0<=(q.map (wtN ws)).sum/\(q.map (wtN ws)).sum<=1000000*(q.length:Int) ->
    q57_.L1 t ws (F.map fun i=>(enT t ws i).row.ID) (q.map (wtN ws)).sum last (q.length:Int) (fun r=>r=((F.map (wtN ws)).sum,true)):=by
   intro r
   induction r with
   |nil=>
    intro q last hq _ _;rw[List.append_nil]at hq;subst hq;apply q57_.L1_step;rw[zB,if_neg (by omega)]
   |cons i r ih=>
    intro q last hq hlast hb;have hlen:q.length+r.length+1=F.length:=by rw[<-hq];simp;omega
    have hi:=hF i (by rw[<-hq];simp);have hid:=hlast i (by simp);have hw:=h.wt hi;apply q57_.L1_step;rw[zB,if_pos (by omega)];refine⟨(enT t ws i).row.ID,by rw[<-hq,zF,List.map_cons];simpa using Aln (p:=q.map fun i=>(enT t ws i).row.ID),((i:Int),true),by rw[Acj hi];exact q102_.spec h.tv hi,?_⟩;rw[if_pos rfl,if_neg (by omega)];refine⟨_,q56_.spec h hi,?_⟩;rw[Abb (by omega) (by omega),Aa4 (by omega)];have:=ih (q++[i]) (enT t ws i).row.ID (by rw[List.append_assoc];exact hq) (fun j hj=>?_) (by rw[zF,zR,zT];simp;omega)
    .rw [zF,zR,zT]at this;simpa using this
    .have hij:i<j:=by
      rw[<-hq]at hS;have:=(List.pairwise_append.1 hS).2.1;exact(List.pairwise_cons.1 this).1 j hj
     have hjl:=hF j (by rw[<-hq];simp[hj]);rw[Acj hi,Acj hjl];exact(List.pairwise_iff_getElem.1 (Amh h.tv.rows)) i j hi hjl hij
  exact go F [] 0 rfl (fun i hi=>by rw[Acj (hF i hi)];exact(Aiv h.tv.rows _ (zG _)).2.2) (by simp))
 rw[<-h1];exact h2
namespace drosslaw42_TractableSolve
theorem again{φ:Bool->Prop}(h:φ true):L1 φ:=L1_step φ ⟨true,q79_.spec,h⟩
theorem spec(x:drosslaw42_Case)(h:CaseOK x):C x true:=by
 obtain⟨r,h1,h2⟩:=enter x (fun r=>r=true) (by
  refine⟨_,q29_.spec h (most:=7) (by decide),true,q79_.spec,?_⟩;rw[if_pos rfl];by_cases hok:((tabF x.Table 7).2&&decide ((x.Deps.length:Int)<=6))=true
  .rw [if_pos hok];have hc:=CasT.of h (most:=7) (by decide) hok;generalize(tabF x.Table 7).1=t at hc⊢;generalize depL t.Attrs.length x.Deps=fds at hc⊢;generalize wsF t.Rows.length x.Weights=ws at hc⊢;have hwl:=hc.wl;have hfl:=hc.few;have hE:=q76_.spec (t:=t) (ws:=ws) hc.fd (by omega) (by omega);refine⟨by show ws.length*8<=_;omega,?_⟩;by_cases he:errT t fds ws=0
   .have ho:=hc.okT (by decide) he;obtain⟨p,hp,hs⟩:=q99_.ok ho he;have hrows:=hc.rows;have hol:=Bjl (t:=t) (ws:=ws) (p:=p);refine⟨_,hs,_,hE,?_⟩;rw[if_pos he];have hsum:sumA (fun i=>if(!p (enT t ws i))=true then wtN ws i else 0) t.Rows.length=allW t ws-wtA wE (entL t ws) p:=by
     have:=Arc ho (q:=p) (g:=fun i=>!p (enT t ws i)) fun i _=>by simp
     omega
    refine⟨_,q57_.spec ho (g:=fun i=>!p (enT t ws i)),?_⟩;rw[if_pos rfl,if_pos rfl,if_pos hsum];obtain⟨b,hb,hbi⟩:=q31_.spec ho (del:=outL t ws p) (by omega);refine⟨b,hb,?_⟩;have hbt:b=true:=hbi.2 (Arn (fun e he=>(Bgb ho e he).symm) hp.cons);rw[if_pos hbt];exact⟨_,q78_.spec ho (by omega) hp,by simp⟩
   .have hs:=q99_.err (t:=t) (ws:=ws) hc.fd (by omega) (by omega) he;refine⟨_,hs,_,hE,?_⟩;rw[if_neg he,if_pos rfl,if_pos (by simp)];rfl
  .rw [if_neg hok]
   exact again rfl)
 subst h1;exact h2
theorem law{xs:List D}(hx:Am7 env.P Aik Ail xs)(hw:wtL xs<=1048576):Ret env Aij xs (.lit (.bool true)) []:=by
 obtain⟨x0,h0,e⟩:=Ah4 (P:=env.P) tf hx;rw[e]at hw⊢;have hlen:x0.Deps.length<=4000000:=by
  have h1:=Ayv (x0.Deps.map Aaf);rw[zB]at h1;simp only[Afa,wtL,wt]at hw;omega
 exact spec x0 ⟨Bmx h0.1,fun d hd=>⟨Apg (h0.2.1.2 d hd).1,Apg (h0.2.1.2 d hd).2⟩,hlen,fun w hw=>Apg (h0.2.2.2 w hw)⟩
end drosslaw42_TractableSolve
end Go.Own
