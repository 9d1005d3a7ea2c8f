/- No conditions. -/
import Derived.Test.YtfpooeoklmlepaaGreatDoorTractableEqualLaw12
import Derived.Test.YtfpooeoklmlepaaGreatDoorTractableEqualLaw5
set_option linter.all false
open List renaming length_map->zA,length_take->zB,getElem?_eq_getElem->zC,getElem_mem->zD,take_of_length_le->zE,mem_of_getElem?->zF,mem_map->zG,take_add_one->zI,mem_filter->zK,mem_range->zM
open Nat renaming lt_of_lt_of_le->zH
open Bool renaming eq_iff_iff->zL
namespace Go.Own
def depL(n:Nat)(L:List drossref09_Dep):List api_FD:=L.map fun x=>{ Lhs:=((sN x.L &&& (2^n-1):Nat):Int),Rhs:=((sN x.R &&& (2^n-1):Nat):Int) }
def Bgi(L:List drossref09_Dep):Prop:=∀x∈L,(0<=x.L/\x.L<256)/\0<=x.R/\x.R<256
theorem Azu{x:Int}(h:0<=x/\x<256){n:Nat}(hn:n<=16):bAnd .u32 (IntKind.wrap .u32 x) ((2^n-1:Nat):Int)=((sN x &&& (2^n-1):Nat):Int):=by
 have hp:=Bgr hn;have e:x=((sN x:Nat):Int):=by unfold sN;omega
 have e2:IntKind.wrap .u32 x=((sN x:Nat):Int):=by
  conv=>lhs;rw[e]
  exact Aey (k:=.u32) (by simp only[top];unfold sN;omega)
 rw[e2];exact Agj (k:=.u32) (by simp only[top];unfold sN;omega) (by simp only[top];omega)
theorem Azk{x n:Nat}:x &&& (2^n-1)<2^n:=by
 have:=Nat.and_le_right (n:=x) (m:=2^n-1);have:0<2^n:=Nat.pow_pos (by omega);omega
theorem q104_.spec{n:Nat}{L:List drossref09_Dep}(hn:n<=16)(hL:Bgi L)(hlen:L.length<=4000000):q104_.C n L (depL n L):=by
 obtain⟨r,h1,h2⟩:=q104_.enter n L (fun r=>r=depL n L) (by
  refine⟨_,Bcz hn,?_⟩;have:∀(r:List drossref09_Dep)(k:Nat),L.drop k=r->k<=L.length->q104_.L1 L ((2^n-1:Nat):Int) (depL n (L.take k)) k (fun r=>r=depL n L):=by
   intro r
   induction r with
   |nil=>
    intro k hd hk;have:=Ab6 hd;apply q104_.L1_step;rw[if_neg (by omega),zE (by omega)]
   |cons x r ih=>
    intro k hd hk;have hlt:=Ab7 hd;have hx:=hL x (zF (Ab4 hd));have next:=ih (k+1) (Aaq hd) (by omega);rw[zI,Ab4 hd,Option.toList_some]at next;unfold depL at next;rw[List.map_append,List.map_cons,List.map_nil]at next;apply q104_.L1_step;rw[if_pos (by omega)];refine⟨x,Abc hd,?_⟩;rw[Azu hx.1 hn,Azu hx.2 hn,Aa4 (by omega)];exact⟨by unfold depL;rw[zA,zB];omega,next⟩
  exact this L 0 rfl (Nat.zero_le _))
 rw[<-h1];exact h2
theorem Ayj:∀(es:List (List D)),es.length<=wtLL es
 |[]=>Nat.le_refl _
 |x::r=>by simp only[wtLL,List.length_cons];have:=Ayj r;omega
theorem Bh9{n:Nat}{L:List drossref09_Dep}(hn:n<=16):FdOK (depL n L):=fun d hd=>by
 obtain⟨x,_,rfl⟩:=zG.1 hd;have hp:=Bgr hn;exact⟨U32.of (zH Azk (by omega)),U32.of (zH Azk (by omega))⟩
theorem Bf8{n:Nat}{L:List drossref09_Dep}:(depL n L).length=L.length:=by simp[depL]
theorem Bmp{x:drossref03_Recipe}(h:(okI .u8) x.Attrs/\(okI .u8) x.Gap/\(okL (okL (okI .u8))) x.Rows):RecOK x:=⟨Ap8 h.1,Ap8 h.2.1,fun r hr c hc=>Ap8 ((h.2.2.2 r hr).2 c hc)⟩
def wsF(R:Nat)(W:List Int):List Int:=if W.length<R then[]else(W.take R).map fun w=>1+w
structure CaseOK(x:drosslaw42_Case):Prop where
 tb:RecOK x.Table
 dp:Bgi x.Deps
 dl:x.Deps.length<=4000000
 ww:∀w∈x.Weights,0<=w/\w<256
namespace q32_
theorem tab_n{x:drossref03_Recipe}{most:Nat}(hx:RecOK x):(tabF x most).1.Attrs.length<=5:=by
 unfold tabF
 split
 .have:=hx.at_;rw[Bc0 (by omega)];omega
 .simp
theorem tab_rows{x:drossref03_Recipe}{most:Nat}:(tabF x most).1.Rows.length<=most:=by
 unfold tabF
 split
 .simp [Ajd];assumption
 .simp
theorem spec{x:drosslaw42_Case}(h:CaseOK x){most:Nat}(hm:most<=1000):C x most ((tabF x.Table most).1,depL (tabF x.Table most).1.Attrs.length x.Deps,wsF (tabF x.Table most).1.Rows.length x.Weights,(tabF x.Table most).2&&decide ((x.Deps.length:Int)<=6)):=by
 have hn:=tab_n (most:=most) h.tb;have hr:=tab_rows (x:=x.Table) (most:=most);have ht:=q80_.spec (x:=x.Table) (most:=most) (by omega) h.tb;generalize tabF x.Table most=T at *;obtain⟨t,ok⟩:=T;simp only at hn hr ht⊢;have hd:=q104_.spec (n:=t.Attrs.length) (by omega) h.dp h.dl;generalize depL t.Attrs.length x.Deps=fds at hd⊢;obtain⟨r,h1,h2⟩:=enter x (most:Int) (fun r=>r=(t,fds,wsF t.Rows.length x.Weights,ok&&decide ((x.Deps.length:Int)<=6))) (by
  refine⟨_,ht,_,hd,?_⟩;have fin:L3 x (t,ok) fds (wsF t.Rows.length x.Weights) (fun r=>r=(t,fds,wsF t.Rows.length x.Weights,ok&&decide ((x.Deps.length:Int)<=6))):=by
   apply L3_step;cases ok
   .rw [if_neg (by simp)];simp
   .rw [if_pos rfl];simp
  have go:∀(d i:Nat),i+d=t.Rows.length->L1 x (t,ok) fds ((x.Weights.take i).map fun w=>1+w) i (fun r=>r=(t,fds,wsF t.Rows.length x.Weights,ok&&decide ((x.Deps.length:Int)<=6))):=by
   intro d
   induction d with
   |zero=>
    intro i hi;have:i=t.Rows.length:=by omega
    subst this;apply L1_step;rw[if_neg (by show ¬((t.Rows.length:Int)<(t.Rows.length:Int));omega)];show if((((x.Weights.take t.Rows.length).map fun w=>1+w).length:Int)<(t.Rows.length:Int))then _ else _
    unfold wsF at fin⊢;by_cases hlt:x.Weights.length<t.Rows.length
    .rw [if_pos hlt]at fin⊢;rw[if_pos (by rw[zA,zB];omega)];exact fin
    .rw [if_neg hlt]at fin⊢;rw[if_neg (by rw[zA,zB];omega)];exact fin
   |succ d ih=>
    intro i hi;have:=ih (i+1) (by omega);apply L1_step;rw[if_pos (by show(i:Int)<(t.Rows.length:Int);omega)];by_cases hw:i<x.Weights.length
    .rw [if_pos (by omega)];have hg:=zC hw;have hb:=h.ww _ (zD hw);generalize x.Weights[i]=w at hg hb;refine⟨w,Aa8 hg,by rw[zA,zB];omega,?_⟩;apply L2_step;rw[Aa4 (by omega),Ab9 (x:=w) (by omega) (by omega),Ab9 (by omega) (by omega)];rw[zI,hg]at this;simpa using this
    .rw [if_neg (by omega)];apply L2_step;rw[Aa4 (by omega)];rw[zE (by omega)]at this⊢;exact this
  exact go t.Rows.length 0 (by omega))
 rw[<-h1];exact h2
end q32_
section
variable{t:api_Table}{fds:List api_FD}{ws:List Int}
namespace q34_
end q34_
namespace q81_
def delN(t:api_Table)(ws:List Int)(x i:Nat):List Int:=((List.range i).filter fun j=>x.testBit j).map fun j=>(enT t ws j).row.ID
def sumN(ws:List Int)(x i:Nat):Int:=sumA (fun j=>if x.testBit j=true then wtN ws j else 0) i
def okN(t:api_Table)(fds:List api_FD)(ws:List Int)(x:Nat):Prop:=Aj1 eqE (DN fds) (entL t ws) fun e=>decide (e.row.ID ∉ delN t ws x t.Rows.length)
structure LB(t:api_Table)(fds:List api_FD)(ws:List Int)(k:Nat)(b:Int):Prop where
 is:(b = -1/\∀y,y<k->¬okN t fds ws y)∨∃y,y<k/\okN t fds ws y/\sumN ws y t.Rows.length=b
 le:∀y,y<k->okN t fds ws y->b<=sumN ws y t.Rows.length
end q81_
end
section
variable{t:api_Table}{fds:List api_FD}{ws:List Int}
theorem Bja(h:OkT t fds ws){p:tractable_entry->Bool}{i:Nat}(hi:i<t.Rows.length):(t.Rows[i]).ID∈outL t ws p↔p (enT t ws i)=false:=by
 unfold outL;rw[zG,<-Af6 (ws:=ws) hi];constructor
 .rintro ⟨j,hj,e⟩;obtain⟨hj,hb⟩:=zK.1 hj;rw[Bgm h.tv (zM.1 hj) hi e]at hb;simpa using hb
 .exact fun hb=>⟨i,zK.2 ⟨zM.2 hi,by simpa using hb⟩,rfl⟩
theorem Bj9{p:tractable_entry->Bool}:(outL t ws p).length<=t.Rows.length:=by
 unfold outL;rw[zA];exact Nat.le_trans (List.length_filter_le _ _) (by simp)
structure CasT(x:drosslaw42_Case)(most:Nat)(t:api_Table)(fds:List api_FD)(ws:List Int):Prop where
 num:TNum t
 fd:FdOK fds
 few:fds.length<=6
 rows:t.Rows.length<=most
 n5:t.Attrs.length<=5
 wl:ws.length<=most
 eq:fds=depL t.Attrs.length x.Deps
theorem CasT.of{x:drosslaw42_Case}(h:CaseOK x){most:Nat}(hm:most<=1000)(hok:((tabF x.Table most).2&&decide ((x.Deps.length:Int)<=6))=true):CasT x most (tabF x.Table most).1 (depL (tabF x.Table most).1.Attrs.length x.Deps) (wsF (tabF x.Table most).1.Rows.length x.Weights):=by
 rw[Bool.and_eq_true,decide_eq_true_eq]at hok;have hn:=q32_.tab_n (most:=most) h.tb;have hr:=q32_.tab_rows (x:=x.Table) (most:=most);refine⟨?_,Bh9 (by omega),by rw[Bf8];omega,hr,hn,?_,rfl⟩
 .unfold tabF
  split
  .exact Bgh
  .intro r hr;simp at hr
 .unfold wsF
  split
  .simp
  .rw [zA,zB];omega
theorem CasT.okT{x:drosslaw42_Case}{most:Nat}(h:CasT x most t fds ws)(hm:most<=60){ws2:List Int}(he:errT t fds ws2=0):OkT t fds ws2:=OkT.of he h.num h.fd (by have:=h.few;omega) (by have:=h.rows;omega)
end
theorem Bk0{a b:List api_Value}(hn:Avy a):q35_.C ⟨0,a⟩ ⟨0,b⟩ (decide (a=b)):=by
 obtain⟨r,h1,h2⟩:=q35_.enter ⟨0,a⟩ ⟨0,b⟩ (fun r=>r=decide (a=b)) (by
  rw[if_pos rfl]
  exact⟨_,q88_.spec hn,rfl⟩)
 rw[<-h1];exact h2
def agB(r s:api_Row)(d:api_FD):Bool:=Ala r.Values s.Values (sN d.Lhs)
theorem q26_.spec{r s:api_Row}{d:api_FD}(hd:U32 d.Lhs)(hr:r.Values.length<=1000)(hs:s.Values.length<=1000)(hv:∀v∈r.Values,v.Str.toList.length<Big):q26_.C d r.ID r.Values s.ID s.Values (agB r s d):=by
 obtain⟨b,h1,h2⟩:=q26_.enter d r.ID r.Values s.ID s.Values (fun b=>b=agB r s d) ⟨_,by rw[hd.eq];exact q66_.spec (a:=⟨r.ID,r.Values⟩) (b:=⟨s.ID,s.Values⟩) hd.lt hr hs hv,rfl⟩;rw[<-h1];exact h2
theorem Bjq{r s:api_Row}{l:List api_FD}(hl:FdOK l)(hn:l.length<=1000)(hr:r.Values.length<=1000)(hs:s.Values.length<=1000)(hv:∀v∈r.Values,v.Str.toList.length<Big):q1_.C l r.ID r.Values s.ID s.Values (l.any (agB r s)):=by
 have hix:q3_.C l r.ID r.Values s.ID s.Values (ixI (agB r s) l):=by
  obtain⟨q,h1,h2⟩:=q3_.enter l r.ID r.Values s.ID s.Values (fun q=>q=ixI (agB r s) l) (by
   refine Acf (l:=l) (p:=agB r s) (L:=fun i=>q3_.L1 l r.ID r.Values s.ID s.Values i _) (φ:=fun q=>q=ixI (agB r s) l) ?_ ?_ rfl
   .intro h;apply q3_.L1_step;rw[if_neg (by omega)];exact h
   .intro k a ha hk h;apply q3_.L1_step;rw[if_pos (by omega)];refine⟨a,Aa8 ha,_,q26_.spec (hl a (zF ha)).1 hr hs hv,?_⟩;rw[Aa4 (by omega)]
    exact h)
  rw[<-h1];exact h2
 obtain⟨q,h1,h2⟩:=q1_.enter l r.ID r.Values s.ID s.Values (fun q=>q=l.any (agB r s)) ⟨_,hix,Ads⟩;rw[<-h1];exact h2
namespace drosslaw42_TractableEqual
theorem again{φ:Bool->Prop}(h:φ true):L2 φ:=L2_step φ ⟨true,q82_.spec,h⟩
section
variable{t:api_Table}{fds:List api_FD}{ws ws0:List Int}{ok:Bool}{p:tractable_entry->Bool}{w:Int}
theorem inner(h:OkT t fds ws)(hb:BestA eqE wE (DN fds) (entL t ws) p){i:Nat}(hi:i<t.Rows.length)(rest:L1 (t,fds,ws0,ok) (outL t ws p,w,0) ((i+1:Nat):Int) (fun r=>r=true)):
  ∀(d k:Nat)(al:Bool),k+d=t.Rows.length->(al=true->∀j,j<k->(hj:j<t.Rows.length)->j=i∨∀d∈fds,¬agA eqE (sN d.Lhs) (enT t ws i) (enT t ws j))->L3 (t,fds,ws0,ok) (outL t ws p,w,0) i t.Rows[i] al i k (fun r=>r=true):=by
 have h60:=h.n60;have h12:=h.few;have hol:=Bj9 (t:=t) (ws:=ws) (p:=p);have rowv:∀{j}(hj:j<t.Rows.length),(t.Rows[j]).Values.length<=16/\∀v∈(t.Rows[j]).Values,v.Str.toList.length<Big:=fun {j} hj=>by
  have hm:=zD hj;refine⟨by rw[h.tv.len hm];exact h.tv.na,fun v hv=>?_⟩;have:=Beh (h.tv.val hm v hv);unfold Big;omega
 have wpos:∀{j},j<t.Rows.length->0<wE (enT t ws j):=fun {j} hj=>by
  have:=h.wt hj;show(0:Int)<((wtN ws j).toNat:Int);omega
 have con:∀{j}(hj:j<t.Rows.length),q23_.C (outL t ws p) (t.Rows[j]).ID (!p (enT t ws j)):=fun {j} hj=>by
  have:=Anj (l:=outL t ws p) (x:=(t.Rows[j]).ID) (by omega);have e:decide ((t.Rows[j]).ID∈outL t ws p)=!p (enT t ws j):=by
   rw[zL,decide_eq_true_eq,Bja h hj];simp
  rw[e]at this;exact this
 intro d
 induction d with
 |zero=>
  intro k al hk hal;have:k=t.Rows.length:=by omega
  subst this;apply L3_step;rw[if_neg (by show ¬((t.Rows.length:Int)<(t.Rows.length:Int));omega)];have next:L6 (t,fds,ws0,ok) (outL t ws p,w,0) i (fun r=>r=true):=by
   apply L6_step;rw[Aa4 (by omega)];exact rest
  by_cases ha:al=true
  .rw [if_pos ha];refine⟨_,con hi,?_⟩;have hp:p (enT t ws i)=true:=Bam Ajh Aft hb (Agl.2 ⟨i,hi,rfl⟩) (wpos hi) fun s hs=>by
    obtain⟨j,hj,rfl⟩:=Agl.1 hs;rcases hal ha j hj hj with e|hn
    .exact .inl (by rw[e])
    .refine .inr fun x hx=>?_;obtain⟨y,hy,rfl⟩:=zG.1 hx;exact hn y hy
   rw[hp,if_neg (by simp)];exact next
  .rw [if_neg ha];exact next
 |succ d ih=>
  intro k al hk hal;have hkl:k<t.Rows.length:=by omega
  have hg:=zC hkl;obtain⟨l1,v1⟩:=rowv hi;obtain⟨l2,v2⟩:=rowv hkl;apply L3_step;rw[if_pos (by show(k:Int)<(t.Rows.length:Int);omega)];refine⟨t.Rows[k],Aa8 hg,_,Bk0 ⟨by unfold Big;omega,v1⟩,?_⟩;have five:L5 (t,fds,ws0,ok) (outL t ws p,w,0) i t.Rows[i] al k t.Rows[k] i (fun r=>r=true):=by
   apply L5_step;by_cases ha:al=true
   .rw [if_pos ha];by_cases hik:(i:Int)=(k:Int)
    .rw [if_pos hik];apply L4_step;rw[Aa4 (by omega)];refine ih (k+1) true (by omega) fun _ j hj hjl=>?_;by_cases e:j=k
     .exact .inl (by omega)
     .exact hal ha j (by omega) hjl
    .rw [if_neg hik];refine⟨_,Bjq h.fd (by show fds.length<=_;omega) (by omega) (by omega) v1,?_⟩;apply L4_step;rw[Aa4 (by omega)];refine ih (k+1) _ (by omega) fun hno j hj hjl=>?_;by_cases e:j=k
     .subst e;refine .inr fun x hx hag=>?_;have hno:(fds.any (agB t.Rows[i] t.Rows[j]))=false:=by simpa using hno
      have:=List.any_eq_false.1 hno x hx;refine this ?_;unfold agB;rw[Au6 (h.fd x hx).1.lt (by rw[h.tv.len (zD hi),h.tv.len (zD hjl)])];intro a ha2;have:=hag a ha2;unfold eqE at this;rw[Af6 hi,Af6 hjl]at this;exact this
     .exact hal ha j (by omega) hjl
   .rw [if_neg ha];apply L4_step;rw[Aa4 (by omega)];exact ih (k+1) false (by omega) fun hf=>by cases hf
  by_cases heq:(t.Rows[i]).Values=(t.Rows[k]).Values
  .rw [if_pos (decide_eq_true heq)];refine⟨_,con hi,_,con hkl,?_⟩;have same:p (enT t ws i)=p (enT t ws k):=by
    have one:∀{a b},a<t.Rows.length->b<t.Rows.length->(enT t ws a).row.Values=(enT t ws b).row.Values->p (enT t ws b)=true->p (enT t ws a)=true:=fun {a b} ha hb2 e hp=>
     Bao Ajh Aft hb (Agl.2 ⟨a,ha,rfl⟩) (Agl.2 ⟨b,hb2,rfl⟩) (wpos ha) (fun x=>by unfold eqE;rw[e]) hp
    have e2:(enT t ws i).row.Values=(enT t ws k).row.Values:=by rw[Af6 hi,Af6 hkl];exact heq
    rw[zL];exact⟨one hkl hi e2.symm,one hi hkl e2⟩
   rw[if_pos (by rw[same])];exact five
  .rw [if_neg (by simpa using heq)];exact five
theorem rows(h:OkT t fds ws)(hb:BestA eqE wE (DN fds) (entL t ws) p):∀(d i:Nat),i+d=t.Rows.length->L1 (t,fds,ws0,ok) (outL t ws p,w,0) i (fun r=>r=true):=by
 have h60:=h.n60;intro d
 induction d with
 |zero=>
  intro i hi;apply L1_step;rw[if_neg (by show ¬((i:Int)<(t.Rows.length:Int));omega)]
 |succ d ih=>
  intro i hi;have hil:i<t.Rows.length:=by omega
  apply L1_step;rw[if_pos (by show(i:Int)<(t.Rows.length:Int);omega)];exact⟨_,Aa8 (zC hil),inner h hb hil (ih (i+1) (by omega)) t.Rows.length 0 true (by omega) fun _ j hj=>by omega⟩
end
theorem spec(x:drosslaw42_Case)(h:CaseOK x):C x true:=by
 obtain⟨r,h1,h2⟩:=enter x (fun r=>r=true) (by
  refine⟨_,q32_.spec h (most:=7) (by decide),true,q82_.spec,?_⟩;rw[if_pos rfl];by_cases hok:((tabF x.Table 7).2&&decide ((x.Deps.length:Int)<=6))=true
  .rw [if_pos hok];have hc:=CasT.of h (most:=7) (by decide) hok;generalize(tabF x.Table 7).1=t at hc⊢;generalize depL t.Attrs.length x.Deps=fds at hc⊢;generalize wsF t.Rows.length x.Weights=ws at hc⊢;have hwl:=hc.wl;have hfl:=hc.few;refine⟨_,q79_.spec (t:=t) (ws:=ws) hc.fd (by show fds.length<1000000;omega) (by omega),?_⟩;by_cases he:errT t fds ws=0
   .rw [if_pos he];have ho:=hc.okT (by decide) he;obtain⟨p,hp,hs⟩:=q102_.ok ho he;refine⟨_,hs,?_⟩;rw[if_pos rfl];exact rows ho hp t.Rows.length 0 (by omega)
   .rw [if_neg he];exact again rfl
  .rw [if_neg hok]
   exact again rfl)
 subst h1;exact h2
theorem law{xs:List D}(hx:Am5 env.P Aih Aii xs)(hw:wtL xs<=1048576):Ret env Aig xs (.lit (.bool true)) []:=by
 obtain⟨x0,h0,e⟩:=Ah5 (P:=env.P) tf hx;rw[e]at hw⊢;have hlen:x0.Deps.length<=4000000:=by
  have h1:=Ayj (x0.Deps.map Aad);rw[zA]at h1;simp only[Af9,wtL,wt]at hw;omega
 exact spec x0 ⟨Bmp h0.1,fun d hd=>⟨Ap8 (h0.2.1.2 d hd).1,Ap8 (h0.2.1.2 d hd).2⟩,hlen,fun w hw=>Ap8 (h0.2.2.2 w hw)⟩
end drosslaw42_TractableEqual
end Go.Own
