/- No conditions. -/
import Derived.Test.YtfpooeoklmlepaaGreatDoorTractableSolveLaw6
import Derived.Test.YtfpooeoklmlepaaGreatDoorTractableSolveLaw7
set_option linter.all false
open List renaming getElem?_eq_getElem->zA,length_cons->zB,length_append->zD,mem_of_getElem?->zE,length_map->zF,length_replicate->zG,mem_cons->zH,getElem?_eq_some_iff->zI,length_set->zK,mem_map->zL,cons_append->zN,mem_append->zO,mem_singleton->zQ,replicate->zR,getElem?_map->zS,getElem_mem->zT,getElem?_eq_none->zU,mem_append_left->zX,range->zY,any_eq_true->yA,append_assoc->yD,filterMap_cons->yE,getElem?_replicate->yF,length_nil->yG,append_nil->yI,take_add_one->yL,length_singleton->yM,mem_cons_of_mem->yO,getElem?_append_right->yP,length_filterMap_le->yS,filter_append->yT,flatMap_cons->yV,flatten_cons->yW,take_of_length_le->yY,length_take->yZ,length_drop->xA,length_filter_le->xB,nil_append->xD,map_cons->xG,not_mem_nil->xL,mem_filter->xQ,map_append->xR,filterMap_append->xT,forall_mem_cons->xV,drop_eq_nil_iff->xW,mem_of_mem_drop->xX,all_cons->xY,replicate_succ->wA,mem_filterMap->wC,nodup_append->wF,filter_congr->wG,getElem?_set->wH,length->wI,all_eq_true->wJ,mem_flatMap->wK,nodup_cons->wL,foldl_cons->wM,range_succ->wQ,drop_drop->wR,mem_range->wS
open Int renaming toNat_natCast->zC,tmod_eq_emod_of_nonneg->xH
open List.cons renaming injEq->zM
open Bool renaming and_eq_true->zP,eq_false_iff->yU,true_and->xF,not_eq_true'->xI,or_true->xK,or_eq_true->xP
open Nat renaming le_refl->zV,pow_le_pow_right->zW,testBit_or->zZ,lt_of_le_of_lt->yB,lt_irrefl->yC,lt_of_lt_of_le->yH,zero_le->yJ,or_lt_two_pow->yK,eq_of_testBit_eq->yN,testBit_two_pow->yQ,le_trans->yR,testBit_lt_two_pow->yX,and_two_pow_sub_one_eq_mod->xC,testBit_two_pow_sub_one->xE,mod_lt->xJ,zero_testBit->xM,mod_eq_of_lt->xN,zero_add->xO,pow_lt_pow_right->xU,add_assoc->xZ,sub_zero->wB,add_comm->wD,and_le_left->wN,strongRecOn->wO,div_le_self->wP
open Option renaming map_eq_some_iff->xS
namespace Go.Own
theorem q103_.spec{a b:Nat}(ha:a<2^32)(hb:b<2^32):q103_.C a b (decide (a &&& b=a)):=by
 obtain⟨r,h1,h2⟩:=q103_.enter a b (fun r=>r=decide (a &&& b=a)) (by
  rw[Afh (k:=.u32) (by simpa[top]using ha) (by simpa[top]using hb)];by_cases h:a &&& b=a
  .simp [h]
  .have:¬((a &&& b:Nat):Int)=(a:Int):=by omega
   simp[h,this])
 rw[<-h1];exact h2
namespace q80_
theorem loop{k:Nat}{φ:Int->Prop}(h:φ (Ae0 k)):∀(m i:Nat),i+m=min k 32->L1 k ((2^i-1:Nat):Int) i φ
 |0,i,hi=>by
  apply L1_step;have e:((2^i-1:Nat):Int)=(Ae0 k:Int):=by unfold Ae0;rw[<-hi,Nat.add_zero]
  rw[e]
  split
  .rw [if_neg (by omega)];exact h
  .exact h
 |m+1,i,hi=>by
  apply L1_step;rw[if_pos (by omega),if_pos (by omega)];refine⟨by omega,?_⟩;have hp:2^(i+1)<=2^32:=zW (by decide) (by omega);have h2:0<2^i:=Nat.pos_of_ne_zero (by simp);rw[Nat.pow_succ]at hp;rw[Ar4 (k:=.u32) (by simp only[top];omega),Ald (k:=.u32) (by simp only[top];omega) (by simp only[top];omega),Aa4 (by omega)];have e:(2^i-1) ||| 2^i=2^(i+1)-1:=by
   apply yN;intro j;rw[zZ,xE,yQ,xE];by_cases h1:j<i
   .have:j<i+1:=by omega
    simp[h1,this]
   .by_cases h3:i=j
    .subst h3;simp
    .have:¬j<i+1:=by omega
     simp[h1,h3,this]
  rw[e];exact loop h m (i+1) (by omega)
theorem spec{k:Nat}:C k (Ae0 k):=by
 obtain⟨r,h1,h2⟩:=enter k (fun r=>r=(Ae0 k:Int)) (loop (φ:=fun r=>r=(Ae0 k:Int)) rfl (min k 32) 0 (by omega));rw[<-h1];exact h2
end q80_
def FdOK(l:List api_FD):Prop:=∀d∈l,U32 d.Lhs/\U32 d.Rhs
def inU(n:Nat)(l r:Int):Bool:=decide (sN l<2^n)&&decide (sN r<2^n)
theorem Bna{n:Nat}{l r:Int}(hl:U32 l)(hr:U32 r):(shrw .u32 (bOr .u32 l r) (n:Int)=0)↔inU n l r=true:=by
 rw[hl.eq,hr.eq,Ald hl.top hr.top,Aed (yK hl.top hr.top)];unfold inU;rw[zP,decide_eq_true_iff,decide_eq_true_iff];have e1:sN (sN l:Int)=sN l:=by unfold sN;omega
 have e2:sN (sN r:Int)=sN r:=by unfold sN;omega
 rw[e1,e2,<-Bnn,<-Bfk];omega
theorem Bgl{a n:Nat}(ha:a<2^32)(hn:n<=32):(a &&& Ae0 n=a)↔a<2^n:=by
 rw[Agy,Ay0];constructor
 .intro h i hi;have:=h i hi;rw[Av3,decide_eq_true_iff]at this;omega
 .intro h i hi;rw[Av3,decide_eq_true_iff];have:=h i hi;omega
theorem Bej{n:Nat}{x:Int}(hn:n<=32)(hx:U32 x):q103_.C x (Ae0 n) (decide (sN x<2^n)):=by
 have:=q103_.spec (a:=sN x) (b:=Ae0 n) hx.lt Bfp;rw[<-hx.eq]at this;have e:decide (sN x &&& Ae0 n=sN x)=decide (sN x<2^n):=by rw[decide_eq_decide];exact Bgl hx.lt hn
 rw[e]at this;exact this
def fdsE(n:Int)(l:List api_FD):Int:=if n<0∨16<n then 7 else if 64<l.length then 3 else if(l.all fun d=>inU n.toNat d.Lhs d.Rhs)=true then 0 else 1
theorem Awq{α:Type}{l:List α}{p:α->Bool}{L:Int->Prop}{φ:Int->Prop}(stop:φ 0->L (l.length:Int))
  (step:∀(k:Nat) a,l[k]?=some a->k<l.length->(if p a=true then L ((k+1:Nat):Int)else φ 1)->L k) (h:φ (if l.all p=true then 0 else 1)):L 0:=
 Ajp (l:=l) (p:=p) (L:=L) (φ:=fun b=>φ (if b=true then 0 else 1)) (fun h=>stop (by simpa using h)) (fun k a ha hk h=>step k a ha hk (by simpa using h)) h
theorem q108_.spec{n:Int}{l:List api_FD}(hl:FdOK l):q108_.C n l (fdsE n l):=by
 obtain⟨r,h1,h2⟩:=q108_.enter n l (fun r=>r=fdsE n l) (by
  by_cases a:n<0∨16<n
  .have e:fdsE n l=7:=if_pos a;rw[e];by_cases b:n<0
   .rw [if_pos b]
   .rw [if_neg b,if_pos (by omega)]
  .rw [if_neg (by omega),if_neg (by omega)];by_cases b:64<l.length
   .have e:fdsE n l=3:=by unfold fdsE;rw[if_neg a,if_pos b]
    rw[e,if_pos (by omega)]
   .have e:fdsE n l=if(l.all fun d=>inU n.toNat d.Lhs d.Rhs)=true then 0 else 1:=by unfold fdsE;rw[if_neg a,if_neg b]
    rw[e,if_neg (by omega)]
    .obtain ⟨m,rfl⟩:∃m:Nat,n=m:=⟨n.toNat,by omega⟩
     refine Awq (l:=l) (p:=fun d=>inU m d.Lhs d.Rhs) (L:=fun i=>q108_.L1 m l i _) (φ:=fun r=>r=_) ?_ ?_ rfl
     .intro h;apply q108_.L1_step;rw[if_neg (by omega)];exact h
     .intro k d hd hk h;apply q108_.L1_step;rw[if_pos (by omega)];refine⟨d,Aa8 hd,by omega,?_⟩;have hd':=hl d (zE hd);have e:=Bna (n:=m) hd'.1 hd'.2;rw[Aa4 (by omega)]
      split
      .rename_i hh;rw[if_pos (e.1 hh)]at h;exact h
      .rename_i hh;rw[if_neg (fun h3=>hh (e.2 h3))]at h;exact h)
 rw[<-h1];exact h2
theorem q58_.spec{n:Int}{l:List api_FD}(hl:FdOK l):q58_.C n l (fdsE n l):=by
 obtain⟨r,h1,h2⟩:=q58_.enter n l (fun r=>r=fdsE n l) (by
  by_cases a:n<0∨16<n
  .have e:fdsE n l=7:=if_pos a;rw[e];by_cases b:n<0
   .rw [if_pos b]
   .rw [if_neg b,if_pos (by omega)]
  .rw [if_neg (by omega),if_neg (by omega)];by_cases b:64<l.length
   .have e:fdsE n l=3:=by unfold fdsE;rw[if_neg a,if_pos b]
    rw[e,if_pos (by omega)]
   .have e:fdsE n l=if(l.all fun d=>inU n.toNat d.Lhs d.Rhs)=true then 0 else 1:=by unfold fdsE;rw[if_neg a,if_neg b]
    rw[e,if_neg (by omega)]
    .obtain ⟨m,rfl⟩:∃m:Nat,n=m:=⟨n.toNat,by omega⟩
     refine⟨_,q80_.spec,?_⟩;refine Awq (l:=l) (p:=fun d=>inU m d.Lhs d.Rhs) (L:=fun i=>q58_.L1 l (Ae0 m) i _) (φ:=fun r=>r=_) ?_ ?_ rfl
     .intro h;apply q58_.L1_step;rw[if_neg (by omega)];exact h
     .intro k d hd hk h;apply q58_.L1_step;rw[if_pos (by omega)];have hd':=hl d (zE hd);refine⟨d,Aa8 hd,_,Bej (by omega) hd'.1,?_⟩;rw[Aa4 (by omega)];unfold inU at h
      split
      .rename_i hh;refine⟨_,Bej (by omega) hd'.2,?_⟩
       split
       .rename_i h3;rw[if_pos (by rw[hh,h3];rfl)]at h;exact h
       .rename_i h3;rw[if_neg (by rw[hh,xF];exact h3)]at h;exact h
      .rename_i hh;rw[if_neg (by rw[yU.2 hh];simp)]at h;exact h)
 rw[<-h1];exact h2
def Acv:List api_FD->Nat->Nat
 |[],s=>s
 |d::l,s=>Acv l (if sN d.Lhs &&& s=sN d.Lhs then s ||| sN d.Rhs else s)
def Afe(l:List api_FD):Nat->Nat->Nat
 |0,s=>s
 |k+1,s=>Afe l k (Acv l s)
def cloN(l:List api_FD)(s:Nat):Nat:=Afe l 33 s
def subN(a b:Nat):Prop:=∀i,a.testBit i=true->b.testBit i=true
theorem Aoi(a:Nat):subN a a:=fun _ h=>h
theorem Ajg{a b c:Nat}(h:subN a b)(k:subN b c):subN a c:=fun i hi=>k i (h i hi)
theorem Ban{a b:Nat}:subN a (a ||| b):=fun i hi=>by rw[zZ,hi];rfl
theorem Avt{a b:Nat}(h:subN a b)(k:subN b a):a=b:=yN fun i=>by
 cases ha:a.testBit i with
 |true=>exact(h i ha).symm
 |false=>
  cases hb:b.testBit i with
  |true=>rw[k i hb]at ha;cases ha
  |false=>rfl
theorem Agm:∀{l:List api_FD}{s:Nat},subN s (Acv l s)
 |[],s=>Aoi s
 |d::l,s=>by
  rw[Acv]
  split
  .exact Ajg Ban Agm
  .exact Agm
theorem Afr:∀{l:List api_FD}{s n:Nat},s<2^n->(∀d∈l,sN d.Rhs<2^n)->Acv l s<2^n
 |[],_,_,h,_=>h
 |d::l,s,n,h,hl=>by
  rw[Acv];refine Afr ?_ fun x hx=>hl x (by simp[hx])
  split
  .exact yK h (hl d (by simp))
  .exact h
def Am2(l:List api_FD)(s:Nat):Prop:=∀d∈l,subN (sN d.Lhs) s->subN (sN d.Rhs) s
theorem Ao9:∀{l:List api_FD}{s c:Nat},subN s c->Am2 l c->subN (Acv l s) c
 |[],_,_,h,_=>h
 |d::l,s,c,h,hc=>by
  rw[Acv];have hc':Am2 l c:=fun x hx=>hc x (by simp[hx])
  split
  .rename_i hs;refine Ao9 (fun i hi=>?_) hc';rw[zZ,xP]at hi;rcases hi with hi|hi
   .exact h i hi
   .exact hc d (by simp) (Ajg (Agy.1 hs) h) i hi
  .exact Ao9 h hc'
theorem Avi:∀{l:List api_FD}{s:Nat},Acv l s=s->Am2 l s
 |[],_,_=>fun d hd=>by cases hd
 |d::l,s,h=>by
  rw[Acv]at h;have h1:(if sN d.Lhs &&& s=sN d.Lhs then s ||| sN d.Rhs else s)=s:=by
   refine Avt ?_ ?_
   .have:=Agm (l:=l) (s:=if sN d.Lhs &&& s=sN d.Lhs then s ||| sN d.Rhs else s);rw[h]at this;exact this
   .split
    .exact Ban
    .exact Aoi s
  rw[h1]at h;intro x hx hs;rcases zH.1 hx with rfl|hx
  .rw [if_pos (Agy.2 hs)]at h1;intro i hi;rw[<-h1,zZ,hi,xK]
  .exact Avi h x hx hs
theorem Akt{l:List api_FD}{s:Nat}(h:Acv l s=s):∀k,Afe l k s=s
 |0=>rfl
 |k+1=>by rw[Afe,h];exact Akt h k
theorem At4{a b:Nat}(hs:subN a b)(hne:a≠b)(hb:b<2^32):szN a<szN b:=by
 have hex:∃i,b.testBit i=true/\a.testBit i=false:=by
  false_or_by_contra
  rename_i h;refine hne (Avt hs fun i hi=>?_);cases ha:a.testBit i with
  |true=>rfl
  |false=>exact absurd ⟨i,hi,ha⟩ h
 obtain⟨i,h1,h2⟩:=hex;have hmem:i∈Aau b:=(Aca hb).2 h1;have ha:a<2^32:=by
  refine Ay0.2 fun j hj=>?_;exact Ay0.1 hb j (hs j hj)
 have hsub:(Aau a).length+1<=(Aau b).length:=by
  have hnd:(i::Aau a).Nodup:=by
   rw[wL];refine⟨fun h=>?_,(Af4 (n:=a)).imp fun h=>by omega⟩;rw[Aca ha,h2]at h;cases h
  have:(i::Aau a) ⊆ Aau b:=by
   intro x hx;rcases zH.1 hx with rfl|hx
   .exact hmem
   .exact (Aca hb).2 (hs x ((Aca ha).1 hx))
  exact hnd.length_le_of_subset this
 exact hsub
theorem Ast{l:List api_FD}(hl:∀d∈l,sN d.Rhs<2^32):∀{k s:Nat},s<2^32->33<=k+szN s->Acv l (Afe l k s)=Afe l k s
 |0,s,hs,hk=>by have:=Adz (n:=s);unfold szN at hk;omega
 |k+1,s,hs,hk=>by
  rw[Afe];by_cases h:Acv l s=s
  .rw [h,Akt h,h]
  .have:=At4 (Agm (l:=l)) (Ne.symm h) (Afr hs hl);exact Ast hl (Afr hs hl) (by omega)
theorem Ayb{l:List api_FD}:∀{k s:Nat},subN s (Afe l k s)
 |0,s=>Aoi s
 |k+1,s=>Ajg Agm Ayb
theorem Avh{l:List api_FD}{c:Nat}(hc:Am2 l c):∀{k s:Nat},subN s c->subN (Afe l k s) c
 |0,_,h=>h
 |k+1,_,h=>Avh hc (k:=k) (Ao9 h hc)
theorem Aya{l:List api_FD}{n:Nat}(hl:∀d∈l,sN d.Rhs<2^n):∀{k s:Nat},s<2^n->Afe l k s<2^n
 |0,_,h=>h
 |k+1,_,h=>Aya hl (k:=k) (Afr h hl)
theorem Bhj{l:List api_FD}{s:Nat}:subN s (cloN l s):=Ayb
theorem Ax2{l:List api_FD}{s c:Nat}(h:subN s c)(hc:Am2 l c):subN (cloN l s) c:=Avh hc h
theorem Bfe{l:List api_FD}{s:Nat}(hl:∀d∈l,sN d.Rhs<2^32)(hs:s<2^32):Am2 l (cloN l s):=Avi (Ast hl hs (by omega))
theorem Ba2{l:List api_FD}{n s:Nat}(hl:∀d∈l,sN d.Rhs<2^n)(hs:s<2^n):cloN l s<2^n:=Aya hl hs
def clr1(d:api_FD):api_FD:=⟨d.Lhs,Aab .u32 d.Rhs d.Lhs⟩
def Acq(out:List api_FD):List api_FD->List api_FD
 |[]=>out
 |d::l=>Acq (if(clr1 d).Rhs=0 then out else if clr1 d∈out then out else out++[clr1 d]) l
def Aav(l:List api_FD):List api_FD:=Acq [] l
theorem Ax4{d:api_FD}(h:U32 d.Lhs/\U32 d.Rhs):U32 (clr1 d).Lhs/\U32 (clr1 d).Rhs:=by
 refine⟨h.1,?_⟩;unfold clr1;simp only;rw[h.2.eq,h.1.eq,Ag6 (k:=.u32) h.2.top h.1.top];exact U32.of (yB Aqx h.2.lt)
theorem Ax3{d:api_FD}(h:U32 d.Lhs/\U32 d.Rhs):sN (clr1 d).Rhs=Akr (sN d.Rhs) (sN d.Lhs):=by
 unfold clr1;simp only;have:=Ag6 (k:=.u32) h.2.top h.1.top;rw[<-h.2.eq,<-h.1.eq]at this;rw[this,Aiw]
theorem Bcw{d:api_FD}(h:U32 d.Lhs/\U32 d.Rhs):clr1 (clr1 d)=clr1 d:=by
 have h1:=Ax4 h;have h2:=Ax4 h1;have:(clr1 (clr1 d)).Rhs=(clr1 d).Rhs:=by
  refine U32.ext h2.2 h1.2 ?_;rw[Ax3 h1,Ax3 h];refine yN fun i=>?_;rw[Agw,Agw];show(_&&_&&!(sN d.Lhs).testBit i)=_;cases(sN d.Rhs).testBit i<;>cases(sN d.Lhs).testBit i<;>rfl
 cases hd:clr1 (clr1 d)with
 |mk a b=>
  have e1:a=(clr1 d).Lhs:=by
   have:(clr1 (clr1 d)).Lhs=(clr1 d).Lhs:=rfl;rw[hd]at this;exact this
  rw[hd]at this;simp only at this;rw[e1,this]
def Agb(l:List api_FD):Prop:=(∀d∈l,clr1 d=d/\d.Rhs≠0)/\l.Nodup
theorem Ahq:∀{l out:List api_FD},FdOK l->FdOK out->Agb out->FdOK (Acq out l)/\Agb (Acq out l)/\(Acq out l).length<=out.length+l.length
 |[],out,_,ho,hc=>⟨ho,hc,by simp[Acq]⟩
 |d::l,out,hl,ho,hc=>by
  have hd:=hl d (by simp);have hl':FdOK l:=fun x hx=>hl x (by simp[hx]);rw[Acq]
  split
  .obtain ⟨h1,h2,h3⟩:=Ahq hl' ho hc;exact⟨h1,h2,by simp only[zB];omega⟩
  .rename_i h0
   split
   .obtain ⟨h1,h2,h3⟩:=Ahq hl' ho hc;exact⟨h1,h2,by simp only[zB];omega⟩
   .rename_i hn;obtain⟨h1,h2,h3⟩:=Ahq (out:=out++[clr1 d]) hl' (fun x hx=>by
     rcases zO.1 hx with hx|hx
     .exact ho x hx
     .rw [zQ.1 hx];exact Ax4 hd) ⟨fun x hx=>by
     rcases zO.1 hx with hx|hx
     .exact hc.1 x hx
     .rw [zQ.1 hx];exact⟨Bcw hd,h0⟩,by
     rw[wF]
     exact⟨hc.2,by simp,fun a ha b hb=>by rw[zQ.1 hb];rintro rfl;exact hn ha⟩⟩
    exact⟨h1,h2,by simp only[zD,zB,yG]at h3⊢;omega⟩
theorem Atn:Agb []:=⟨fun x hx=>(xL hx).elim,List.nodup_nil⟩
theorem Axe:FdOK []:=fun x hx=>(xL hx).elim
theorem Ahp{l:List api_FD}(hl:FdOK l):FdOK (Aav l):=(Ahq hl Axe Atn).1
theorem Akj{l:List api_FD}(hl:FdOK l):Agb (Aav l):=(Ahq hl Axe Atn).2.1
theorem Agq{l:List api_FD}(hl:FdOK l):(Aav l).length<=l.length:=by
 have:=(Ahq hl Axe Atn).2.2;simpa[Aav]using this
theorem Ax5:∀{l out:List api_FD},Agb (out++l)->Acq out l=out++l
 |[],out,_=>by simp[Acq]
 |d::l,out,h=>by
  obtain⟨h1,h2⟩:=h.1 d (by simp);have hn:d ∉ out:=fun hd=>by
   have:=h.2;rw[wF]at this;exact this.2.2 d hd d (by simp) rfl
  rw[Acq,h1,if_neg h2,if_neg hn,Ax5 (by rw[yD];exact h),yD];rfl
theorem Ax1{l:List api_FD}(h:Agb l):Aav l=l:=Ax5 (out:=[]) h
def subI(a b:Int):Bool:=decide (sN a &&& sN b=sN a)
def Ad9(l:List api_FD)(s:Int):Bool:=l.any fun d=>decide (d.Lhs=s)
def covF(l:List api_FD)(a b:Int):Bool:=l.all fun d=>subI a d.Lhs || subI b d.Lhs
def cloI(l:List api_FD)(s:Int):Int:=((cloN l (sN s):Nat):Int)
def Abh(l:List api_FD)(x:api_Step):Bool:=
 if x.Kind=1 then decide (0<l.length)&&(decide (szN (sN x.First)=1)&&(decide (x.Second=0)&&covF l x.First x.First))
 else if x.Kind=2 then Ad9 l 0&&(decide (x.First=cloI l 0)&&decide (x.Second=0))
 else if x.Kind=3 then !decide (x.First=x.Second)&&(Ad9 l x.First&&(Ad9 l x.Second&&(decide (cloI l x.First=cloI l x.Second)&&covF l x.First x.Second)))
 else false
def Ard(x:api_Step):Prop:=U32 x.First/\U32 x.Second
def cutF(l:List api_FD)(s:Int):List api_FD:=l.map fun d=>⟨Aab .u32 d.Lhs s,Aab .u32 d.Rhs s⟩
theorem andU(a b:Int)(ha:U32 a)(hb:U32 b):U32 (Aab .u32 a b):=by
 rw[ha.eq,hb.eq,Ag6 (k:=.u32) ha.top hb.top];exact U32.of (yB Aqx ha.lt)
theorem Anr{l:List api_FD}{s:Int}(hl:FdOK l)(hs:U32 s):FdOK (cutF l s):=fun d hd=>by
 obtain⟨x,hx,rfl⟩:=zL.1 hd;exact⟨andU _ _ (hl x hx).1 hs,andU _ _ (hl x hx).2 hs⟩
def Ank(l:List api_FD)(x:api_Step):List api_FD×Int:=
 if Abh (Aav l) x=true then(Aav (cutF (Aav l) (bOr .u32 x.First x.Second)),0)else([],1)
def Amd(s:Nat)(l:List api_FD):Nat:=l.foldl (fun s d=>s &&& sN d.Lhs) s
def comN:List api_FD->Nat
 |[]=>0
 |d::l=>Amd (sN d.Lhs) (d::l)
theorem Auq{i:Nat}:∀{l:List api_FD}{s:Nat},(Amd s l).testBit i=(s.testBit i&&l.all fun d=>(sN d.Lhs).testBit i)
 |[],s=>by simp[Amd]
 |d::l,s=>by
  have:=Auq (i:=i) (l:=l) (s:=s &&& sN d.Lhs);unfold Amd at this⊢;rw[wM,this,Nat.testBit_and,xY,Bool.and_assoc]
theorem Bfi{i:Nat}{l:List api_FD}(h:l≠[]):(comN l).testBit i=l.all fun d=>(sN d.Lhs).testBit i:=by
 cases l with
 |nil=>exact absurd rfl h
 |cons d l=>
  rw[comN,Auq,xY];cases(sN d.Lhs).testBit i<;>rfl
theorem Ax6:∀{l:List api_FD}{s:Nat},s<2^32->Amd s l<2^32
 |[],s,h=>h
 |d::l,s,h=>by
  unfold Amd;rw[wM];exact Ax6 (yB wN h)
theorem Ba4{l:List api_FD}(hl:FdOK l):comN l<2^32:=by
 cases l with
 |nil=>rw[comN];decide
 |cons d l=>exact Ax6 (hl d (by simp)).1.lt
theorem Bjv{a:Nat}(ha:a<32):szN (2^a)=1:=by
 have h0:(2^a:Nat)≠0:=Nat.ne_of_gt (Nat.pow_pos (by omega));have h1:(2^a:Nat)<2^32:=xU (by omega) ha;unfold szN;rw[Apo h0 h1,xC,Nat.mod_self,Al3];rfl
theorem Bjn{a:Nat}{b:Int}:subI ((2^a:Nat):Int) b=(sN b).testBit a:=by
 unfold subI;rw[Aiw];cases h:(sN b).testBit a with
 |true=>
  refine decide_eq_true (Agy.2 fun i hi=>?_);rw[yQ]at hi;have:a=i:=by simpa using hi
  rw[<-this];exact h
 |false=>
  refine decide_eq_false fun hh=>?_;have:=Agy.1 hh a (by rw[yQ];simp);rw[h]at this;cases this
theorem Bge{l:List api_FD}{a:Nat}(ha:a<32):Abh l ⟨1,((2^a:Nat):Int),0⟩=(comN l).testBit a:=by
 unfold Abh;rw[if_pos rfl];simp only[Aiw,Bjv ha,decide_true,xF];cases l with
 |nil=>simp[comN]
 |cons d l=>
  rw[Bfi (by simp)];simp only[zB,Nat.zero_lt_succ,decide_true,xF,covF,Bjn,Bool.or_self]
def Acr(p:Nat->Bool):Nat->Nat->Option Nat
 |0,_=>none
 |n+1,k=>if p k=true then some k else Acr p n (k+1)
theorem Apt{p:Nat->Bool}{i:Nat}(hi:p i=true):∀{n k:Nat},(∀j,k<=j->j<i->p j=false)->k<=i->i<k+n->Acr p n k=some i
 |0,k,_,h1,h2=>by omega
 |n+1,k,h,h1,h2=>by
  rw[Acr];by_cases hk:k=i
  .rw [hk,if_pos hi]
  .rw [if_neg (by rw[h k (zV k) (by omega)];decide)];exact Apt hi (fun j hj=>h j (by omega)) (by omega) (by omega)
theorem Aps{p:Nat->Bool}:∀{n k:Nat},(∀j,k<=j->j<k+n->p j=false)->Acr p n k=none
 |0,k,_=>rfl
 |n+1,k,h=>by
  rw[Acr,if_neg (by rw[h k (zV k) (by omega)];decide)];exact Aps fun j h1 h2=>h j (by omega) (by omega)
theorem Av0{p:Nat->Bool}{i:Nat}:∀{n k:Nat},Acr p n k=some i->p i=true/\k<=i/\i<k+n
 |0,k,h=>by cases h
 |n+1,k,h=>by
  rw[Acr]at h
  split at h
  .simp only[zJ]at h;subst h;exact⟨by assumption,by omega,by omega⟩
  .have:=Av0 h;exact⟨this.1,by omega,by omega⟩
theorem Ava{x:Nat}(h:x≠0):∃i,x.testBit i=true/\∀j,j<i->x.testBit j=false:=by
 obtain⟨i,hi⟩:∃i,x.testBit i=true:=by
  false_or_by_contra
  rename_i hn;exact h (yN fun i=>by
   rw[xM];cases hb:x.testBit i with
   |false=>rfl
   |true=>exact absurd ⟨i,hb⟩ hn)
 induction i using wO with
 |ind i ih=>
  by_cases hex:∃j,j<i/\x.testBit j=true
  .obtain ⟨j,hj,hb⟩:=hex;exact ih j hj hb
  .exact ⟨i,hi,fun j hj=>by
    cases hb:x.testBit j with
    |false=>rfl
    |true=>exact absurd ⟨j,hj,hb⟩ hex⟩
theorem Bcp{x i:Nat}(hx:x<2^32)(h:x.testBit i=true):i<32:=by
 false_or_by_contra
 rename_i hge;rw[yX (yH hx (zW (by omega) (by omega)))]at h;cases h
def Abg(l:List api_FD):List Int:=ordL (l.map fun d=>d.Lhs)
theorem Aog{l:List api_FD}(hl:FdOK l){s:Int}:s∈Abg l↔Ad9 l s=true:=by
 have hu:AllU (l.map fun d=>d.Lhs):=fun y hy=>by
  obtain⟨d,hd,rfl⟩:=zL.1 hy;exact(hl d hd).1
 unfold Abg Ad9;rw[Aqy hu,yA,zL];simp only[decide_eq_true_eq]
theorem Akx{l:List api_FD}(hl:FdOK l):AllU (Abg l):=Bg8 fun y hy=>by
 obtain⟨d,hd,rfl⟩:=zL.1 hy;exact(hl d hd).1
theorem Aix{l:List api_FD}:(Abg l).length<=l.length:=by
 have:=Bga (l:=l.map fun d=>d.Lhs);simpa[Abg]using this
def Ae4(l:List api_FD):List Int->Option (Int×Int)
 |[]=>none
 |a::r=>match r.find? (fun b=>Abh l ⟨3,a,b⟩)with
  |some b=>some (a,b)
  |none=>Ae4 l r
def Ab1(l:List api_FD):api_Step×Bool:=match Acr (fun a=>Abh l ⟨1,((2^a:Nat):Int),0⟩) 32 0 with
 |some a=>(⟨1,((2^a:Nat):Int),0⟩,true)
 |none=>if Abh l ⟨2,cloI l 0,0⟩=true then(⟨2,cloI l 0,0⟩,true)else match Ae4 l (Abg l)with
  |some q=>(⟨3,q.1,q.2⟩,true)
  |none=>(⟨0,0,0⟩,false)
theorem Aq4{l:List api_FD}(hl:FdOK l):Acr (fun a=>Abh l ⟨1,((2^a:Nat):Int),0⟩) 32 0=if comN l=0 then none else Acr (fun a=>(comN l).testBit a) 32 0:=by
 have e:∀n k,k+n<=32->Acr (fun a=>Abh l ⟨1,((2^a:Nat):Int),0⟩) n k=Acr (fun a=>(comN l).testBit a) n k:=by
  intro n
  induction n with
  |zero=>intro k _;rfl
  |succ n ih=>intro k hk;rw[Acr,Acr,Bge (by omega),ih (k+1) (by omega)]
 rw[e 32 0 (by omega)]
 split
 .rename_i h0;rw[h0];exact Aps fun j _ _=>xM j
 .rfl
theorem Bai{l:List api_FD}{q:Int×Int}:∀{r:List Int},Ae4 l r=some q->q.1∈r/\q.2∈r/\Abh l ⟨3,q.1,q.2⟩=true
 |[],h=>by cases h
 |a::r,h=>by
  rw[Ae4]at h
  split at h
  .rename_i b hb;simp only[zJ]at h;subst h;have hp:=List.find?_some (p:=fun b=>Abh l ⟨3,a,b⟩) hb;exact⟨by simp,yO _ (List.mem_of_find?_eq_some hb),hp⟩
  .obtain ⟨h1,h2,h3⟩:=Bai h;exact⟨yO _ h1,yO _ h2,h3⟩
theorem Bcv{l:List api_FD}(hl:FdOK l){s:Int}(hs:U32 s):U32 (cloI l s):=U32.of (Ba2 (n:=32) (fun d hd=>(hl d hd).2.lt) hs.lt)
theorem Aeu:U32 0:=⟨by omega,by omega⟩
theorem Apb{l:List api_FD}(hl:FdOK l)(h:(Ab1 l).2=true):Abh l (Ab1 l).1=true/\Ard (Ab1 l).1:=by
 unfold Ab1 at h⊢;cases h1:Acr (fun a=>Abh l ⟨1,((2^a:Nat):Int),0⟩) 32 0 with
 |some a=>
  obtain⟨h2,_,h3⟩:=Av0 h1;simp only;exact⟨h2,U32.of (xU (by omega) (by omega)),Aeu⟩
 |none=>
  rw[h1]at h;simp only at h⊢;by_cases h2:Abh l ⟨2,cloI l 0,0⟩=true
  .rw [if_pos h2];exact⟨h2,Bcv hl Aeu,Aeu⟩
  .rw [if_neg h2]at h⊢;cases h3:Ae4 l (Abg l)with
   |none=>rw[h3]at h;cases h
   |some q=>
    obtain⟨g1,g2,g3⟩:=Bai h3;exact⟨g3,Akx hl _ g1,Akx hl _ g2⟩
def atts:List api_FD->Nat
 |[]=>0
 |d::l=>sN d.Lhs ||| sN d.Rhs ||| atts l
theorem Agi{i:Nat}:∀{l:List api_FD},(atts l).testBit i=l.any fun d=>(sN d.Lhs).testBit i || (sN d.Rhs).testBit i
 |[]=>by simp[atts]
 |d::l=>by rw[atts,zZ,zZ,List.any_cons,Agi]
theorem Azx:∀{l:List api_FD},FdOK l->atts l<2^32
 |[],_=>by rw[atts];decide
 |d::l,h=>by
  rw[atts];exact yK (yK (h d (by simp)).1.lt (h d (by simp)).2.lt) (Azx fun x hx=>h x (by simp[hx]))
theorem Aev{a b:Int}(ha:U32 a)(hb:U32 b){i:Nat}:(sN (Aab .u32 a b)).testBit i=((sN a).testBit i&&!(sN b).testBit i):=by
 have:=Ag6 (k:=.u32) ha.top hb.top;rw[<-ha.eq,<-hb.eq]at this;rw[this,Aiw,Agw]
theorem Ao8{a b:Int}(ha:U32 a)(hb:U32 b){i:Nat}:(sN (bOr .u32 a b)).testBit i=((sN a).testBit i || (sN b).testBit i):=by
 have:=Ald (k:=.u32) ha.top hb.top;rw[<-ha.eq,<-hb.eq]at this;rw[this,Aiw,zZ]
theorem Akk:∀{l out:List api_FD}{d:api_FD},d∈Acq out l->d∈out∨∃x∈l,d=clr1 x
 |[],out,d,h=>.inl h
 |x::l,out,d,h=>by
  rw[Acq]at h;have fin_:∀{o:List api_FD},d∈Acq o l->(d∈o->d∈out∨d=clr1 x)->d∈out∨∃y∈x::l,d=clr1 y:=fun hd hk=>by
   rcases Akk hd with h|⟨y,hy,h⟩
   .rcases hk h with h|h
    .exact .inl h
    .exact .inr ⟨x,by simp,h⟩
   .exact .inr ⟨y,by simp[hy],h⟩
  split at h
  .exact fin_ h .inl
  .split at h
   .exact fin_ h .inl
   .exact fin_ h fun hm=>by
     rcases zO.1 hm with h|h
     .exact .inl h
     .exact .inr (zQ.1 h)
theorem Aql{l:List api_FD}{s:Int}(hl:FdOK l)(hs:U32 s){i:Nat}(h:(atts (Aav (cutF l s))).testBit i=true):(atts l).testBit i=true/\(sN s).testBit i=false:=by
 rw[Agi,yA]at h;obtain⟨d,hd,h⟩:=h;rcases Akk hd with hd|⟨x,hx,rfl⟩
 .exact absurd hd xL
 .have hxo:=Anr hl hs x hx;obtain⟨y,hy,rfl⟩:=zL.1 hx;have hy':=hl y hy;have hb:(sN (Aab .u32 y.Lhs s)).testBit i=true∨(sN (Aab .u32 y.Rhs s)).testBit i=true:=by
   rw[xP]at h;rcases h with h|h
   .exact .inl h
   .right;have:=Aev hxo.2 hxo.1 (i:=i);have h:(sN (Aab .u32 (Aab .u32 y.Rhs s) (Aab .u32 y.Lhs s))).testBit i=true:=h;rw[this,zP]at h;exact h.1
  rw[Aev hy'.1 hs,Aev hy'.2 hs]at hb;rw[Agi,yA];rcases hb with hb|hb
  .simp only[zP,xI]at hb;exact⟨⟨y,hy,by rw[hb.1];rfl⟩,hb.2⟩
  .simp only[zP,xI]at hb;exact⟨⟨y,hy,by rw[hb.1,xK]⟩,hb.2⟩
theorem Ay6{x:Nat}(h:x≠0):∃i,x.testBit i=true:=let ⟨i,h1,_⟩:=Ava h;⟨i,h1⟩
theorem Bh5{x:Int}(hx:U32 x)(h:x≠0):sN x≠0:=fun h0=>h (by rw[hx.eq,h0];rfl)
theorem Bgf{l:List api_FD}(hl:FdOK l)(hc:Agb l){x:api_Step}(hx:Ard x)(h:Abh l x=true):∃i,(atts l).testBit i=true/\(sN (bOr .u32 x.First x.Second)).testBit i=true:=by
 have hit:∀{i:Nat}{d:api_FD},d∈l->((sN d.Lhs).testBit i || (sN d.Rhs).testBit i)=true->(atts l).testBit i=true:=fun hd hb=>by
  rw[Agi,yA];exact⟨_,hd,hb⟩
 unfold Abh at h
 split at h
 .simp only[zP,decide_eq_true_eq]at h;obtain⟨h0,h1,h2,h3⟩:=h;have hne:sN x.First≠0:=fun hz=>by
   rw[hz]at h1;unfold szN at h1;rw[Al3]at h1;cases h1
  obtain⟨i,hi⟩:=Ay6 hne;obtain⟨d,hd⟩:∃d,d∈l:=by
   cases l with
   |nil=>exact absurd h0 (yC 0)
   |cons d l=>exact⟨d,by simp⟩
  refine⟨i,hit hd ?_,by rw[Ao8 hx.1 hx.2,hi];rfl⟩;have:=wJ.1 h3 d hd;rw[Bool.or_self]at this;unfold subI at this;rw[Agy.1 (of_decide_eq_true this) i hi];rfl
 .split at h
  .simp only[zP,decide_eq_true_eq]at h;obtain⟨h1,h2,h3⟩:=h;unfold Ad9 at h1;rw[yA]at h1;obtain⟨d,hd,h1⟩:=h1;have h1:=of_decide_eq_true h1;obtain⟨i,hi⟩:=Ay6 (Bh5 (hl d hd).2 (hc.1 d hd).2);refine⟨i,hit hd (by rw[hi,xK]),?_⟩;rw[Ao8 hx.1 hx.2,h2];have hcl:=Bfe (l:=l) (s:=0) (fun d hd=>(hl d hd).2.lt) (by decide);have:(sN (cloI l 0)).testBit i=true:=by
    unfold cloI;rw[Aiw];exact hcl d hd (fun j hj=>by rw[h1]at hj;rw[show sN 0=0 from rfl,xM]at hj;cases hj) i hi
   rw[this];rfl
  .split at h
   .simp only[zP,xI,decide_eq_false_iff_not]at h;obtain⟨h1,h2,h3,_⟩:=h;have one:∀{s:Int},U32 s->s≠0->Ad9 l s=true->(∀i,(sN s).testBit i=true->(sN (bOr .u32 x.First x.Second)).testBit i=true)->∃i,(atts l).testBit i=true/\(sN (bOr .u32 x.First x.Second)).testBit i=true:=fun hs h0 hlf hk=>by
     unfold Ad9 at hlf;rw[yA]at hlf;obtain⟨d,hd,h1⟩:=hlf;have h1:=of_decide_eq_true h1;obtain⟨i,hi⟩:=Ay6 (Bh5 hs h0);exact⟨i,hit hd (by rw[h1,hi];rfl),hk i hi⟩
    by_cases h0:x.First=0
    .refine one hx.2 (fun hz=>h1 (by rw[h0,hz])) h3 fun i hi=>?_;rw[Ao8 hx.1 hx.2,hi,xK]
    .refine one hx.1 h0 h2 fun i hi=>?_;rw[Ao8 hx.1 hx.2,hi];rfl
   .cases h
theorem or_int'{a b:Int}(ha:U32 a)(hb:U32 b):U32 (bOr .u32 a b):=by
 rw[ha.eq,hb.eq,Ald (k:=.u32) ha.top hb.top];exact U32.of (yK ha.lt hb.lt)
def Aeg(l:List api_FD):List api_FD:=Aav (cutF l (bOr .u32 (Ab1 l).1.First (Ab1 l).1.Second))
theorem Aoh{l:List api_FD}(hl:FdOK l)(hc:Agb l)(h:(Ab1 l).2=true):szN (atts (Aeg l))<szN (atts l):=by
 obtain⟨h1,h2⟩:=Apb hl h;have hs:=or_int' h2.1 h2.2;obtain⟨i,g1,g2⟩:=Bgf hl hc h2 h1;refine At4 (fun j hj=>(Aql hl hs hj).1) (fun he=>?_) (Azx hl);have:(atts (Aeg l)).testBit i=true:=by rw[he];exact g1
 rw[(Aql hl hs this).2]at g2;cases g2
theorem Ar5{l:List api_FD}(hl:FdOK l)(h:(Ab1 l).2=true):FdOK (Aeg l)/\Agb (Aeg l)/\(Aeg l).length<=l.length:=by
 obtain⟨h1,h2⟩:=Apb hl h;have hs:=or_int' h2.1 h2.2;refine⟨Ahp (Anr hl hs),Akj (Anr hl hs),?_⟩;have:=Agq (Anr hl hs);have e:(cutF l (bOr .u32 (Ab1 l).1.First (Ab1 l).1.Second)).length=l.length:=by unfold cutF;rw[zF]
 unfold Aeg;omega
def Ado:Nat->List api_FD->List api_Step×List api_FD
 |0,l=>([],l)
 |k+1,l=>if(Ab1 l).2=true then((Ab1 l).1::(Ado k (Aeg l)).1,(Ado k (Aeg l)).2)else([],l)
def Ac2(n:Int)(l:List api_FD):List api_Step×List api_FD×Int:=
 if fdsE n l=0 then((Ado 40 (Aav l)).1,(Ado 40 (Aav l)).2,0)else([],[],fdsE n l)
section
variable{ρ:Type}{eq:ρ->ρ->Nat->Prop}
def satD(eq:ρ->ρ->Nat->Prop)(l:List api_FD)(r t:ρ):Prop:=∀d∈l,agA eq (sN d.Lhs) r t->agA eq (sN d.Rhs) r t
def DN(l:List api_FD):List (Nat×Nat):=l.map fun d=>(sN d.Lhs,sN d.Rhs)
theorem Amu{l:List api_FD}{r t:ρ}:(∀d∈DN l,agA eq d.1 r t->agA eq d.2 r t)↔satD eq l r t:=by
 unfold DN satD;constructor
 .intro h d hd;exact h _ (zL.2 ⟨d,hd,rfl⟩)
 .intro h d hd;obtain⟨x,hx,rfl⟩:=zL.1 hd;exact h x hx
theorem Ayi{d:api_FD}(hd:U32 d.Lhs/\U32 d.Rhs){r t:ρ}:(agA eq (sN (clr1 d).Lhs) r t->agA eq (sN (clr1 d).Rhs) r t)↔(agA eq (sN d.Lhs) r t->agA eq (sN d.Rhs) r t):=by
 have hb:∀i,(sN (clr1 d).Rhs).testBit i=((sN d.Rhs).testBit i&&!(sN d.Lhs).testBit i):=fun i=>Aev hd.2 hd.1;constructor
 .intro h hl i hi;by_cases hli:(sN d.Lhs).testBit i=true
  .exact hl i hli
  .exact h hl i (by rw[hb,hi];simpa using hli)
 .intro h hl i hi;rw[hb,zP]at hi;exact h hl i hi.1
theorem Arm:∀{l out:List api_FD}{x:api_FD},x∈out->x∈Acq out l
 |[],_,_,h=>h
 |d::l,out,x,h=>by
  rw[Acq];refine Arm ?_
  split
  .exact h
  .split
   .exact h
   .exact zX _ h
theorem Aun:∀{l out:List api_FD}{d:api_FD},d∈l->(clr1 d).Rhs=0∨clr1 d∈Acq out l
 |x::l,out,d,h=>by
  rw[Acq];rcases zH.1 h with rfl|h
  .by_cases h0:(clr1 d).Rhs=0
   .exact .inl h0
   .refine .inr (Arm ?_);rw[if_neg h0]
    split
    .rename_i h1;exact h1
    .simp
  .exact Aun h
theorem Avq{l:List api_FD}(hl:FdOK l){r t:ρ}:satD eq (Aav l) r t↔satD eq l r t:=by
 constructor
 .intro h d hd;refine(Ayi (hl d hd)).1 ?_;rcases Aun (out:=[]) hd with h0|h0
  .intro _ i hi;rw[h0]at hi;simp[sN]at hi
  .exact h _ h0
 .intro h d hd;rcases Akk hd with h0|⟨x,hx,rfl⟩
  .cases h0
  .exact (Ayi (hl x hx)).2 (h x hx)
theorem Are{x s:Int}(hx:U32 x)(hs:U32 s){r t:ρ}(h:agA eq (sN s) r t):agA eq (sN (Aab .u32 x s)) r t↔agA eq (sN x) r t:=by
 constructor
 .intro k i hi;by_cases hsi:(sN s).testBit i=true
  .exact h i hsi
  .exact k i (by rw[Aev hx hs,hi];simpa using hsi)
 .intro k i hi;rw[Aev hx hs,zP]at hi;exact k i hi.1
theorem Bjs{l:List api_FD}{s:Int}(hl:FdOK l)(hs:U32 s){r t:ρ}(h:agA eq (sN s) r t):satD eq (cutF l s) r t↔satD eq l r t:=by
 constructor
 .intro k d hd ha;have:=k _ (zL.2 ⟨d,hd,rfl⟩) ((Are (hl d hd).1 hs h).2 ha);exact(Are (hl d hd).2 hs h).1 this
 .intro k d hd ha;obtain⟨x,hx,rfl⟩:=zL.1 hd;exact(Are (hl x hx).2 hs h).2 (k x hx ((Are (hl x hx).1 hs h).1 ha))
theorem Bee{l:List api_FD}{s:Int}(hl:FdOK l)(hs:U32 s):Aw7 eq (sN s) (DN l) (DN (Aav (cutF l s))):=fun r t h=>by
 rw[Amu,Amu,Avq (Anr hl hs),Bjs hl hs h]
open Classical in
theorem Ay3(P:Nat->Prop):∀n:Nat,∃c:Nat,∀i,c.testBit i=true↔i<n/\P i
 |0=>⟨0,fun i=>by simp⟩
 |n+1=>by
  obtain⟨c,hc⟩:=Ay3 P n;by_cases hp:P n
  .refine ⟨c ||| 2^n,fun i=>?_⟩;rw[zZ,xP,hc,yQ];constructor
   .rintro (h|h)
    .exact ⟨by omega,h.2⟩
    .have e:n=i:=of_decide_eq_true h;exact⟨by omega,e ▸ hp⟩
   .rintro ⟨h1,h2⟩;by_cases e:n=i
    .right;simp[e]
    .exact .inl ⟨by omega,h2⟩
  .refine ⟨c,fun i=>?_⟩;rw[hc];constructor
   .exact fun h=>⟨by omega,h.2⟩
   .rintro ⟨h1,h2⟩;have:i≠n:=fun e=>hp (e ▸ h2);exact⟨by omega,h2⟩
theorem Bci{l:List api_FD}(hl:FdOK l){s:Nat}(hs:s<2^32){r t:ρ}(h:satD eq l r t)(ha:agA eq s r t):agA eq (cloN l s) r t:=by
 obtain⟨c,hc⟩:=Ay3 (fun i=>eq r t i) 32;have hsub:∀{x:Nat},x<2^32->(subN x c↔agA eq x r t):=fun {x} hx=>by
  constructor
  .exact fun k i hi=>((hc i).1 (k i hi)).2
  .exact fun k i hi=>(hc i).2 ⟨Bcp hx hi,k i hi⟩
 have hcl:Am2 l c:=fun d hd hd1=>(hsub (hl d hd).2.lt).2 (h d hd ((hsub (hl d hd).1.lt).1 hd1));have hlt:=Ba2 (l:=l) (n:=32) (fun d hd=>(hl d hd).2.lt) hs;exact(hsub hlt).1 (Ax2 ((hsub hs).2 ha) hcl)
theorem Bk2{x y:Nat}{r t:ρ}(h:∀i,x.testBit i=true->y.testBit i=true)(k:agA eq y r t):agA eq x r t:=fun i hi=>k i (h i hi)
end
def letB(x:Int):Bool:=decide (97<=x/\x<=122∨65<=x/\x<=90∨x=95)
def alnB(x:Int):Bool:=letB x || decide (48<=x/\x<=57)
def Aso:List UInt8:=[110,117,108,108]
theorem Ba0:(⟨#[110,117,108,108]⟩:ByteArray).toList=Aso:=Ap0 (l:=Aso)
theorem Aww:(⟨#[]⟩:ByteArray).toList=[]:=Ap0 (l:=[])
def Abz:List UInt8->Bool
 |[]=>false
 |b::r=>decide (r.length<24)&&letB (u8i b)&&!decide (b::r=Aso)&&r.all fun b=>alnB (u8i b)
def Aia(s:ByteArray):Bool:=Abz s.toList
namespace q48_
theorem spec{x : Int} : C x (letB x) := by
  obtain⟨r, h1, h2⟩ := enter x (fun r => r = letB x) (by
    unfold letB
    repeat' split
    all_goals first
      |(symm; rw[decide_eq_true_iff]; omega)
      | (by_cases h : x = 95
         · simp[h]
         · have : (x==95) = false := by simpa using h
           rw[this]; symm; rw[decide_eq_false_iff_not]; omega))
  rw[<-h1]; exact h2
end q48_
theorem Awr{φ:Bool->Prop}{P:Prop}{x:Int}(h:if alnB x=true then P else φ false)(hl:¬letB x=true):if x<48 then φ false else if 57<x then φ false else P:=by
 have e:alnB x=decide (48<=x/\x<=57):=by unfold alnB;rw[yU.2 hl,Bool.false_or]
 rw[e]at h
 repeat' split
 .rw [if_neg (by rw[decide_eq_true_iff];omega)]at h;exact h
 .rw [if_neg (by rw[decide_eq_true_iff];omega)]at h;exact h
 .rw [if_pos (by rw[decide_eq_true_iff];omega)]at h;exact h
namespace q81_
theorem spec{s:ByteArray}:C s (Aia s):=by
 obtain⟨r,h1,h2⟩:=enter s (fun r=>r=Aia s) (by
  unfold Aia;rw[Acp,Ba0];cases hs:s.toList with
  |nil=>simp[Abz]
  |cons b t=>
   rw[if_neg (by simp;omega)]
   split
   .rename_i hn;have hn:24<=t.length:=by simp at hn;omega
    simp[Abz];omega
   .rename_i hn;have hn:t.length<24:=by simp at hn;omega
    refine⟨b,Aeh (by rw[hs];rfl),letB (u8i b),q48_.spec,?_⟩
    split
    .rename_i hb
     split
     .rename_i h0;simp[Abz,Aso,h0]
     .rename_i h0;refine Ajp (l:=s.toList) (p:=fun b=>alnB (u8i b)) (L:=fun i=>L1 s i fun r=>r=Abz (b::t)) (φ:=fun r=>r=Abz (b::t)) ?_ ?_ ?_
      .intro h;apply L1_step;rw[Acp,if_neg (by omega)];exact h
      .intro k c hc hk h;apply L1_step;rw[Acp,if_pos (by omega)];have next:L1 s ((k+1:Nat):Int) (fun r=>r=Abz (b::t))->L2 s k fun r=>r=Abz (b::t):=fun h=>by
        apply L2_step;have hsl:s.toList.length=(b::t).length:=by rw[hs]
        simp at hsl;rw[Aa4 (by omega)];exact h
       refine⟨c,Aeh hc,_,q48_.spec,?_⟩
       split
       .rename_i hl;rw[if_pos (by unfold alnB;rw[hl];rfl)]at h;exact next h
       .rename_i hl;have h3:=Awr (φ:=fun r=>r=Abz (b::t)) (P:=L2 s k fun r=>r=Abz (b::t)) (by
         split
         .rename_i hh;rw[if_pos hh]at h;exact next h
         .rename_i hh;rw[if_neg hh]at h;exact h) hl
        refine⟨c,Aeh hc,?_⟩
        split
        .rename_i h4;rw[if_pos h4]at h3;exact h3
        .rename_i h4;rw[if_neg h4]at h3;exact⟨c,Aeh hc,h3⟩
      .rw [hs];have e:alnB (u8i b)=true:=by unfold alnB;rw[hb];rfl
       simp only[xY,e,xF,Abz,hb,h0,decide_false,Bool.not_false,Bool.and_true];simp[hn]
    .rename_i hb
     simp[Abz,hb])
 rw[<-h1];exact h2
end q81_
namespace q118_
theorem two{s:ByteArray}{i:Int}{φ:Bool->Prop}{x:Int}(h:if letB x=true then L3 s i φ else if i=0 then φ false else if x<48 then φ false else if 57<x then φ false else L3 s i φ):L2 s i x (letB x) φ:=by
 apply L2_step;exact h
theorem spec{s : ByteArray} : C s (Aia s) := by
  obtain⟨r, h1, h2⟩ := enter s (fun r => r = Aia s) (by
    unfold Aia;rw[Acp, Ba0, Aww];cases hs : s.toList with
    |nil => simp[Abz]
    |cons b t =>
      rw[if_neg (by simp)]
      split
      · rename_i hn
        have hn : 24 <= t.length := by simp at hn; omega
        simp[Abz]; omega
      · rename_i hn
        have hn : t.length < 24 := by simp at hn; omega
        have hlen : s.toList.length = t.length + 1 := by rw[hs]; rfl
        split
        · rename_i h0
          simp[Abz, Aso, h0]
        · rename_i h0
          have body : ∀(k : Nat) c, s.toList[k]?=some c -> (if letB (u8i c) = true then L1 s ((k + 1 : Nat) : Int) (fun r => r = Abz (b :: t))else if(k : Int) = 0 then false = Abz (b :: t)else if(u8i c) < 48 then false = Abz (b :: t)else if 57 < (u8i c)then false = Abz (b :: t)else L1 s ((k + 1 : Nat) : Int) (fun r => r = Abz (b :: t))) -> L1 s k (fun r => r = Abz (b :: t)) := by
            intro k c hc h;have hk := (zI.1 hc).1;apply L1_step;rw[Acp, if_pos (by omega)];refine⟨c, Aeh hc, ?_⟩;have next : L1 s ((k + 1 : Nat) : Int) (fun r => r = Abz (b :: t)) -> L3 s k fun r => r = Abz (b :: t) := fun h => by
              apply L3_step;rw[Aa4 (by omega)];exact h
            have key : L2 s k (u8i c) (letB (u8i c)) fun r => r = Abz (b :: t) := by
              apply two
              split
              · rename_i hh; rw[if_pos hh]at h; exact next h
              · rename_i hh; rw[if_neg hh]at h
                split
                · rename_i h2; rw[if_pos h2]at h; exact h
                · rename_i h2; rw[if_neg h2]at h
                  split
                  · rename_i h3; rw[if_pos h3]at h; exact h
                  · rename_i h3; rw[if_neg h3]at h
                    split
                    · rename_i h4; rw[if_pos h4]at h; exact h
                    · rename_i h4; rw[if_neg h4]at h; exact next h
            have e : ∀v, v = letB (u8i c) -> L2 s k (u8i c) v fun r => r = Abz (b :: t) := by rintro _ rfl; exact key
            repeat' split
            all_goals apply e
            all_goals unfold letB
            all_goals first
              |(symm; rw[decide_eq_true_iff]; omega)
              | (by_cases h : u8i c = 95
                 · simp[h]
                 · have : (u8i c==95) = false := by simpa using h
                   rw[this]; symm; rw[decide_eq_false_iff_not]; omega)
          have h0s : s.toList[0]?=some b := by rw[hs]; rfl
          refine body 0 b h0s ?_
          split
          · rename_i hb
            have rest := Ajp (l := t) (p := fun b => alnB (u8i b)) (L := fun i => L1 s (i + 1) fun r => r = Abz (b :: t)) (φ := fun r => r = Abz (b :: t)) ?_ ?_ ?_
            · simpa using rest
            · intro h
              apply L1_step;rw[Acp, if_neg (by omega)]; exact h
            · intro k c hc hk h
              have e1 : ((k : Nat) : Int) + 1 = ((k + 1 : Nat) : Int) := by omega
              rw[e1];refine body (k + 1) c (by rw[hs]; simpa using hc) ?_
              split
              · rename_i hl
                rw[if_pos (by unfold alnB; rw[hl]; rfl)]at h;exact h
              · rename_i hl
                rw[if_neg (by omega)];exact Awr (φ := fun r => r = Abz (b :: t)) h hl
            · simp[Abz, hb, h0, hn]
          · rename_i hb
            simp[Abz, hb])
  rw[<-h1]; exact h2
end q118_
def eqS(x a:ByteArray):Bool:=decide (a=x)
def Alr:List ByteArray->List ByteArray->Bool
 |_,[]=>true
 |pre,a::r=>Aia a&&!pre.any (eqS a)&&Alr (pre++[a]) r
def Afp(l:List ByteArray):Bool:=Alr [] l
namespace q22_
theorem spec{l:List ByteArray}{x:ByteArray}(hn:l.length<Big):C l x (ixI (eqS x) l):=by
 obtain⟨r,h1,h2⟩:=enter l x (fun r=>r=ixI (eqS x) l) (by
  refine Acs (l:=l) (p:=eqS x) (L:=fun i=>L1 l x i _) (φ:=fun r=>r=ixI (eqS x) l) ?_ ?_ rfl
  .intro h;apply L1_step;rw[if_neg (by omega)];exact h
  .intro k a ha hk h;apply L1_step;rw[if_pos (by omega)];refine⟨a,Aa8 ha,?_⟩;rw[Aa4 (by unfold Big at hn;omega)]
   split
   .rename_i hh;rw[if_pos (by simp[eqS,Ale.1 hh])]at h;exact h
   .rename_i hh;rw[if_neg (by simp only[eqS,decide_eq_true_eq];rintro rfl;exact hh rfl)]at h;exact h)
 rw[<-h1];exact h2
end q22_
theorem q18_.spec{l:List ByteArray}{x:ByteArray}(hn:l.length<Big):q18_.C l x (l.any (eqS x)):=by
 obtain⟨r,h1,h2⟩:=q18_.enter l x (fun r=>r=l.any (eqS x)) ⟨_,q22_.spec hn,by rw[Aek]⟩;rw[<-h1];exact h2
namespace q82_
theorem spec{l:List ByteArray}{x:ByteArray}(hn:l.length<Big):C l x (ixI (eqS x) l):=by
 obtain⟨r,h1,h2⟩:=enter l x (fun r=>r=ixI (eqS x) l) (by
  refine Acs (l:=l) (p:=eqS x) (L:=fun i=>L1 l x i _) (φ:=fun r=>r=ixI (eqS x) l) ?_ ?_ rfl
  .intro h;apply L1_step;rw[if_neg (by omega)];exact h
  .intro k a ha hk h;apply L1_step;rw[if_pos (by omega)];refine⟨a,Aa8 ha,?_⟩;rw[Aa4 (by unfold Big at hn;omega)]
   split
   .rename_i hh;rw[if_pos (by simp[eqS,Ale.1 hh])]at h;exact h
   .rename_i hh;rw[if_neg (by simp only[eqS,decide_eq_true_eq];rintro rfl;exact hh rfl)]at h;exact h)
 rw[<-h1];exact h2
end q82_
theorem Asl{l : List ByteArray}{L : Int -> Prop}{P Q : Prop}(stop : P -> L (l.length : Int))
    (step : ∀(k : Nat) a, l[k]?=some a -> k < l.length -> (if Aia a = true then(if(l.take k).any (eqS a) = true then Q else L ((k + 1 : Nat) : Int))else Q) -> L k) (h : Afp l = true -> P) (h' : Afp l = false -> Q) : L 0 := by
  have : ∀(r : List ByteArray)(k : Nat), l.drop k = r -> k <= l.length -> (Alr (l.take k) r = true -> P) -> (Alr (l.take k) r = false -> Q) -> L k := by
    intro r
    induction r with
    | nil => intro k hd hk h h'; have : k = l.length := by have := Ab7 hd; omega
             subst this; exact stop (h rfl)
    |cons a r ih =>
      intro k hd hk h h';have hlt := Ab8 hd;refine step k a (Aax hd) hlt ?_;have hn := ih (k + 1) (Aap hd) hlt;have e : l.take (k + 1) = l.take k ++ [a] := by rw[yL, Aax hd]; rfl
      rw[e]at hn;simp only[Alr]at h h'
      split
      · rename_i h1
        split
        · rename_i h2
          exact h' (by simp[h1, h2])
        · rename_i h2
          have h2 := yU.2 h2;exact hn (fun hh => h (by simp[h1, h2, hh])) (fun hh => h' (by simp[h1, h2, hh]))
      · rename_i h1
        have h1 := yU.2 h1;exact h' (by simp[h1])
  exact this l 0 rfl (yJ _) h h'
theorem q60_.spec{l:List ByteArray}(hn:l.length<Big):q60_.C l (Afp l):=by
 obtain⟨r,h1,h2⟩:=q60_.enter l (fun r=>r=Afp l) (by
  refine Asl (l:=l) (L:=fun i=>q60_.L1 l i _) (P:=true=Afp l) (Q:=false=Afp l) ?_ ?_ Eq.symm Eq.symm
  .intro h;apply q60_.L1_step;rw[if_neg (by omega)];exact h
  .intro k a ha hk h;apply q60_.L1_step;rw[if_pos (by omega)];refine⟨a,Aa8 ha,_,q81_.spec,?_⟩
   split
   .rename_i h1;rw[if_pos h1]at h;refine⟨by omega,by omega,_,q82_.spec (by rw[yZ];omega),?_⟩;rw[zC,wB,Aa4 (by unfold Big at hn;omega)];have e:(0<=ixI (eqS a) (l.take k))↔(l.take k).any (eqS a)=true:=by rw[<-Aek,decide_eq_true_iff]
    split
    .rename_i h2;rw[if_pos (e.1 h2)]at h;exact h
    .rename_i h2;rw[if_neg (fun hh=>h2 (e.2 hh))]at h;exact h
   .rename_i h1;rw[if_neg h1]at h;exact h)
 rw[<-h1];exact h2
def Aaz(v:api_Value):Bool:=decide (v.Kind=0/\v.Num=0/\v.Str.toList=[]∨v.Kind=1/\v.Str.toList=[]∨v.Kind=2/\v.Num=0/\v.Str.toList.length<=200∨v.Kind=3/\1<=v.Num/\v.Str.toList=[])
theorem At7{v : api_Value}{φ : Bool -> Prop}(h : φ (Aaz v)) : (if v.Kind = 0 then(if v.Num = 0 then φ (v.Str.toList==(⟨#[]⟩ : ByteArray).toList)else φ false)else(if v.Kind = 1 then φ (v.Str.toList==(⟨#[]⟩ : ByteArray).toList)else(if v.Kind = 2 then(if v.Num = 0 then φ (decide ((Ad8 v.Str) <= 200))else φ false)else(if v.Kind = 3 then(if 1 <= v.Num then φ (v.Str.toList==(⟨#[]⟩ : ByteArray).toList)else φ false)else φ false)))) := by
  have e : ∀b, b = Aaz v -> φ b := by rintro _ rfl; exact h
  have e0 : (v.Str.toList==(⟨#[]⟩ : ByteArray).toList) = decide (v.Str.toList = []) := by
    rw[Aww];by_cases h : v.Str.toList = []
    · simp[h]
    · simp[h]
  rw[e0, Acp]
  repeat' split
  all_goals apply e
  all_goals unfold Aaz
  all_goals first
    |(rw[decide_eq_decide]; omega)
    |(symm; rw[decide_eq_false_iff_not]; omega)
    | (rw [decide_eq_decide]; constructor
       · intro h; simp_all
       · intro h; simp_all)
theorem q121_.spec{v:api_Value}:q121_.C v (Aaz v):=by
 obtain⟨r,h1,h2⟩:=q121_.enter v (fun r=>r=Aaz v) (At7 (φ:=fun r=>r=Aaz v) rfl);rw[<-h1];exact h2
theorem q59_.spec{v:api_Value}:q59_.C v (Aaz v):=by
 obtain⟨r,h1,h2⟩:=q59_.enter v (fun r=>r=Aaz v) (At7 (φ:=fun r=>r=Aaz v) rfl);rw[<-h1];exact h2
def Adx(l:List api_Value):Bool:=l.all Aaz
theorem q32_.spec{v:api_Value}:q32_.C v (!Aaz v):=by
 obtain⟨r,h1,h2⟩:=q32_.enter v (fun r=>r=!Aaz v) ⟨_,q121_.spec,rfl⟩;rw[<-h1];exact h2
namespace q2_
theorem spec{l:List api_Value}(hn:l.length<Big):C l (ixI (fun v=>!Aaz v) l):=by
 obtain⟨r,h1,h2⟩:=enter l (fun r=>r=ixI (fun v=>!Aaz v) l) (by
  refine Acs (l:=l) (p:=fun v=>!Aaz v) (L:=fun i=>L1 l i _) (φ:=fun r=>r=ixI (fun v=>!Aaz v) l) ?_ ?_ rfl
  .intro h;apply L1_step;rw[if_neg (by omega)];exact h
  .intro k a ha hk h;apply L1_step;rw[if_pos (by omega)];refine⟨a,Aa8 ha,_,q32_.spec,?_⟩;rw[Aa4 (by unfold Big at hn;omega)]
   exact h)
 rw[<-h1];exact h2
end q2_
theorem q1_.spec{l:List api_Value}(hn:l.length<Big):q1_.C l (!Adx l):=by
 obtain⟨r,h1,h2⟩:=q1_.enter l (fun r=>r=!Adx l) ⟨_,q2_.spec hn,by
  rw[Aek];unfold Adx;rw[List.any_eq_not_all_not];simp⟩
 rw[<-h1];exact h2
theorem q46_.spec{l:List api_Value}(hn:l.length<Big):q46_.C l (Adx l):=by
 obtain⟨r,h1,h2⟩:=q46_.enter l (fun r=>r=Adx l) ⟨_,q1_.spec hn,by
  show(!(!Adx l))=_
  rw[Bool.not_not]⟩
 rw[<-h1];exact h2
theorem q47_.spec{l:List api_Value}(hn:l.length<Big):q47_.C l (Adx l):=by
 obtain⟨r,h1,h2⟩:=q47_.enter l (fun r=>r=Adx l) (by
  refine Ajp (l:=l) (p:=Aaz) (L:=fun i=>q47_.L1 l i _) (φ:=fun r=>r=Adx l) ?_ ?_ rfl
  .intro h;apply q47_.L1_step;rw[if_neg (by omega)];exact h
  .intro k a ha hk h;apply q47_.L1_step;rw[if_pos (by omega)];refine⟨a,Aa8 ha,_,q59_.spec,?_⟩;rw[Aa4 (by unfold Big at hn;omega)]
   exact h)
 rw[<-h1];exact h2
def Ach(n:Nat):Int->List api_Row->Int
 |_,[]=>0
 |last,r::rs=>if r.ID<=last then 1 else if r.Values.length=n then(if Adx r.Values=true then Ach n r.ID rs else 1)else 6
def Ads(t:api_Table):Int:=if Aia t.Name=true then(if 16<t.Attrs.length then 3 else if 1000<t.Rows.length then 3 else if Afp t.Attrs=true then Ach t.Attrs.length 0 t.Rows else 1)else 1
theorem Avo{n : Nat}{l : List api_Row}{L : Int -> Int -> Prop}{φ : Int -> Prop}(stop : ∀last, φ 0 -> L last (l.length : Int))
    (step : ∀(k : Nat) r last, l[k]?=some r -> k < l.length -> (if r.ID <= last then φ 1 else if r.Values.length = n then(if Adx r.Values = true then L r.ID ((k + 1 : Nat) : Int)else φ 1)else φ 6) -> L last k) (h : φ (Ach n 0 l)) : L 0 0 := by
  have : ∀(r : List api_Row)(k : Nat)(last : Int), l.drop k = r -> k <= l.length -> φ (Ach n last r) -> L last k := by
    intro r
    induction r with
    | nil => intro k last hd hk h; have : k = l.length := by have := Ab7 hd; omega
             subst this; exact stop _ h
    |cons a r ih =>
      intro k last hd hk h;have hlt := Ab8 hd;refine step k a last (Aax hd) hlt ?_;simp only[Ach]at h
      split
      · rename_i h1; rw[if_pos h1]at h; exact h
      · rename_i h1; rw[if_neg h1]at h
        split
        · rename_i h2; rw[if_pos h2]at h
          split
          · rename_i h3; rw[if_pos h3]at h; exact ih (k + 1) _ (Aap hd) hlt h
          · rename_i h3; rw[if_neg h3]at h; exact h
        · rename_i h2; rw[if_neg h2]at h; exact h
  exact this l 0 0 rfl (yJ _) h
namespace q122_
theorem rows{t:api_Table}{φ:Int->Prop}(hr:t.Rows.length<=1000)(ha:t.Attrs.length<=16)(h:φ (Ach t.Attrs.length 0 t.Rows)):L2 t 0 0 φ:=by
 refine Avo (n:=t.Attrs.length) (l:=t.Rows) (L:=fun last i=>L2 t last i φ) (φ:=φ) ?_ ?_ h
 .intro last h;apply L2_step;rw[if_neg (by omega)];exact h
 .intro k r last hr hk h;apply L2_step;rw[if_pos (by omega)];refine⟨r,Aa8 hr,?_⟩
  split
  .rename_i h1;rw[if_pos h1]at h;exact h
  .rename_i h1;rw[if_neg h1]at h
   split
   .rename_i h2;have h2:r.Values.length=t.Attrs.length:=by omega
    rw[if_pos h2]at h;refine⟨_,q46_.spec (by unfold Big;omega),?_⟩;rw[Aa4 (by omega)];exact h
   .rename_i h2;rw[if_neg (by omega)]at h;exact h
theorem spec{t:api_Table}:C t (Ads t):=by
 obtain⟨r,h1,h2⟩:=enter t (fun r=>r=Ads t) (by
  refine⟨_,q118_.spec,?_⟩;unfold Ads
  split
  .by_cases h1:16<t.Attrs.length
   .rw [if_pos (by omega),if_pos h1]
   .rw [if_neg (by omega),if_neg h1];by_cases h2:1000<t.Rows.length
    .rw [if_pos (by omega),if_pos h2]
    .rw [if_neg (by omega),if_neg h2];refine Asl (l:=t.Attrs) (L:=fun i=>L1 t i _) (P:=Ach t.Attrs.length 0 t.Rows=if Afp t.Attrs=true then Ach t.Attrs.length 0 t.Rows else 1) (Q:=(1:Int)=if Afp t.Attrs=true then Ach t.Attrs.length 0 t.Rows else 1) ?_ ?_ ?_ ?_
     .intro h;apply L1_step;rw[if_neg (by omega)];exact rows (φ:=fun r=>r=if Afp t.Attrs=true then Ach t.Attrs.length 0 t.Rows else 1) (by omega) (by omega) h
     .intro k a ha hk h;apply L1_step;rw[if_pos (by omega)];refine⟨a,Aa8 ha,_,q118_.spec,?_⟩
      split
      .rename_i h1;rw[if_pos h1]at h;refine⟨by omega,by omega,_,q18_.spec (by rw[yZ];unfold Big;omega),?_⟩;rw[zC,wB,Aa4 (by omega)];exact h
      .rename_i h1;rw[if_neg h1]at h;exact h
     .intro h;rw[if_pos h]
     .intro h;rw[if_neg (by rw[h];decide)]
  .rfl)
 rw[<-h1];exact h2
end q122_
namespace q61_
theorem rows{t:api_Table}{φ:Int->Prop}(hr:t.Rows.length<=1000)(ha:t.Attrs.length<=16)(h:φ (Ach t.Attrs.length 0 t.Rows)):L1 t 0 0 φ:=by
 refine Avo (n:=t.Attrs.length) (l:=t.Rows) (L:=fun last i=>L1 t last i φ) (φ:=φ) ?_ ?_ h
 .intro last h;apply L1_step;rw[if_neg (by omega)];exact h
 .intro k r last hr hk h;apply L1_step;rw[if_pos (by omega)];refine⟨r,Aa8 hr,?_⟩
  split
  .rename_i h1;rw[if_pos h1]at h;exact h
  .rename_i h1;rw[if_neg h1]at h
   split
   .rename_i h2;have h2:r.Values.length=t.Attrs.length:=by omega
    rw[if_pos h2]at h;refine⟨_,q47_.spec (by unfold Big;omega),?_⟩;rw[Aa4 (by omega)];exact h
   .rename_i h2;rw[if_neg (by omega)]at h;exact h
theorem spec{t:api_Table}:C t (Ads t):=by
 obtain⟨r,h1,h2⟩:=enter t (fun r=>r=Ads t) (by
  refine⟨_,q81_.spec,?_⟩;unfold Ads
  split
  .by_cases h1:16<t.Attrs.length
   .rw [if_pos (by omega),if_pos h1]
   .rw [if_neg (by omega),if_neg h1];by_cases h2:1000<t.Rows.length
    .rw [if_pos (by omega),if_pos h2]
    .rw [if_neg (by omega),if_neg h2];refine⟨_,q60_.spec (by unfold Big;omega),?_⟩
     split
     .exact rows (φ:=fun r=>r=Ach t.Attrs.length 0 t.Rows) (by omega) (by omega) rfl
     .rfl
  .rfl)
 rw[<-h1];exact h2
end q61_
namespace q83_
theorem loop{φ:List Int->Prop}:∀(n:Nat)(acc:List Int),n<2^32->acc.length+(Aau n).length<=1000->φ (acc++(Aau n).map fun(i:Nat)=>(i:Int))->L1 n acc φ:=by
 intro n
 induction n using wO with
 |_ n ih=>
  intro acc hn hl h;apply L1_step;by_cases h0:n=0
  .subst h0;rw[Al3]at h;rw[if_pos (by omega)];simpa using h
  .rw [if_neg (by omega)];rw[Apo h0 hn]at hl h;simp only[zB]at hl;refine⟨by omega,by omega,?_⟩;have e1:IntKind.wrap .u32 ((n:Int)-1)=((n-1:Nat):Int):=by
    have:(n:Int)-1=((n-1:Nat):Int):=by omega
    rw[this];exact Af1 (k:=.u32) (by simp only[top];omega)
   rw[e1,Afh (k:=.u32) (by simpa[top]using hn) (by simp only[top];omega)];refine ih _ (Bfc h0) _ (yB wN hn) (by rw[zD,yM];omega) ?_;have e2:tz32 (n:Int)=((Acl n 32 0:Nat):Int):=by unfold tz32;rw[zC]
   rw[e2];simpa using h
theorem spec{n:Nat}(hn:n<2^32):C n ((Aau n).map fun(i:Nat)=>(i:Int)):=by
 obtain⟨r,h1,h2⟩:=enter n (fun r=>r=(Aau n).map fun(i:Nat)=>(i:Int)) (loop n [] hn (by have:=Adz (n:=n);simp;omega) (by simp));rw[<-h1];exact h2
end q83_
namespace q104_
theorem spec{n i:Nat}(hn:n<2^32):C n i (n.testBit i):=by
 obtain⟨r,h1,h2⟩:=enter n i (fun r=>r=n.testBit i) (by
  rw[if_pos (by omega)]
  split
  .refine ⟨by omega,?_⟩;rw[Bhf (k:=.u32) (by simpa[top]using hn) (by decide)];cases n.testBit i<;>rfl
  .rw [yX (yH hn (zW (by decide) (by omega)))])
 rw[<-h1];exact h2
end q104_
end Go.Own

namespace Go.Own
theorem Aii{a b:Int}:cmpI a b=0↔a=b:=by
 unfold cmpI;repeat' split
 all_goals omega
theorem q84_.spec{a b:Int}:q84_.C a b (cmpI a b):=by
 obtain⟨r,h1,h2⟩:=q84_.enter a b (fun r=>r=cmpI a b) (by
  unfold cmpI;repeat' split
  all_goals first|rfl|omega)
 rw[<-h1];exact h2
def cmpL:List UInt8->List UInt8->Int
 |[],[]=>0
 |[],_::_=>-1
 |_::_,[]=>1
 |a::r,b::s=>if a=b then cmpL r s else cmpI (u8i a) (u8i b)
theorem Auo:∀{a b:List UInt8},cmpL a b=0↔a=b
 |[],[]=>by simp[cmpL]
 |[],_::_=>by simp[cmpL]
 |_::_,[]=>by simp[cmpL]
 |a::r,b::s=>by
  simp only[cmpL]
  split
  .rename_i h;subst h;rw[Auo];simp
  .rename_i h;rw[Aii,Aly];simp[h]
def cmpS(a b:ByteArray):Int:=cmpL a.toList b.toList
theorem Bfg:∀{a b:List UInt8},(a=[]∨b=[])->cmpI a.length b.length=cmpL a b
 |[],[],_=>rfl
 |[],_::r,_=>by
  simp only[cmpL,cmpI,zB,yG];rw[if_pos (by omega)]
 |_::r,[],_=>by
  simp only[cmpL,cmpI,zB,yG];rw[if_neg (by omega),if_pos (by omega)]
 |_::_,_::_,h=>by simp at h
namespace q38_
theorem loop{a b:ByteArray}{φ:Int->Prop}(hn:a.toList.length<Big):∀(r s:List UInt8)(k:Nat),a.toList.drop k=r->b.toList.drop k=s->k<=a.toList.length->k<=b.toList.length->φ (cmpL r s)->L1 a b k φ:=by
 have fin:∀(r s:List UInt8)(k:Nat),a.toList.drop k=r->b.toList.drop k=s->k<=a.toList.length->k<=b.toList.length->(r=[]∨s=[])->φ (cmpL r s)->L2 a b φ:=by
  intro r s k hr hs hk hk2 h0 h;apply L2_step;refine⟨_,q84_.spec,?_⟩;rw[Acp,Acp];have e:cmpI a.toList.length b.toList.length=cmpI r.length s.length:=by
   rw[<-hr,<-hs,xA,xA];unfold cmpI
   repeat' split
   all_goals omega
  rw[e,Bfg h0];exact h
 intro r
 induction r with
 |nil=>
  intro s k hr hs hk hk2 h;apply L1_step;have:=Ab7 hr;rw[Acp,if_neg (by omega)];exact fin _ _ k hr hs hk hk2 (.inl rfl) h
 |cons x r ih=>
  intro s k hr hs hk hk2 h;apply L1_step;have hlt:=Ab8 hr;rw[Acp,if_pos (by omega),Acp]
  match s,hs,h with
  |[],hs,h=>
   have:=Ab7 hs;rw[if_neg (by omega)];exact fin _ _ k hr hs hk hk2 (.inr rfl) h
  |y::s,hs,h=>
   have hlt2:=Ab8 hs;rw[if_pos (by omega)];refine⟨x,Aeh (Aax hr),y,Aeh (Aax hs),?_⟩;simp only[cmpL]at h
   split
   .rename_i he;rw[if_pos (Aly.1 he)]at h;rw[Aa4 (by unfold Big at hn;omega)];exact ih s (k+1) (Aap hr) (Aap hs) hlt hlt2 h
   .rename_i he;rw[if_neg (fun hh=>he (Aly.2 hh))]at h;refine⟨x,Aeh (Aax hr),y,Aeh (Aax hs),_,q84_.spec,?_⟩;have b1:=Ayo (b:=x);have b2:=Ayo (b:=y);rw[Abb (by omega) (by omega),Abb (by omega) (by omega)];exact h
theorem spec{a b:ByteArray}(hn:a.toList.length<Big):C a b (cmpS a b):=by
 obtain⟨r,h1,h2⟩:=enter a b (fun r=>r=cmpS a b) (loop hn a.toList b.toList 0 rfl rfl (by omega) (by omega) rfl);rw[<-h1];exact h2
end q38_
def cmpV(v w:api_Value):Int:=if cmpI v.Kind w.Kind=0 then(if cmpI v.Num w.Num=0 then cmpS v.Str w.Str else cmpI v.Num w.Num)else cmpI v.Kind w.Kind
theorem Aup{v w:api_Value}:cmpV v w=0↔v=w:=by
 obtain⟨k,n,s⟩:=v;obtain⟨k',n',s'⟩:=w;unfold cmpV cmpS;simp only[api_Value.mk.injEq]
 split
 .rename_i h1;rw[Aii]at h1
  split
  .rename_i h2;rw[Aii]at h2;rw[Auo,Ale];simp[h1,h2]
  .rename_i h2;have h3:=h2;rw[Aii]at h3;simp[h2,h3]
 .rename_i h1;have h3:=h1;rw[Aii]at h3;simp[h1,h3]
theorem q39_.spec{v w:api_Value}(hn:v.Str.toList.length<Big):q39_.C v w (cmpV v w):=by
 obtain⟨r,h1,h2⟩:=q39_.enter v w (fun r=>r=cmpV v w) (by
  refine⟨_,q84_.spec,?_⟩;unfold cmpV
  split
  .refine ⟨_,q84_.spec,?_⟩
   split
   .exact ⟨_,q38_.spec hn,rfl⟩
   .rfl
  .rfl)
 rw[<-h1];exact h2
def Bax(l:List api_Value):Prop:=l.length<Big/\∀v∈l,v.Str.toList.length<Big
def Aey:List api_Value->List api_Value->Int
 |[],[]=>0
 |[],_::_=>-1
 |_::_,[]=>1
 |a::r,b::s=>if cmpV a b=0 then Aey r s else cmpV a b
theorem Amc:∀{a b:List api_Value},Aey a b=0↔a=b
 |[],[]=>by simp[Aey]
 |[],_::_=>by simp[Aey]
 |_::_,[]=>by simp[Aey]
 |a::r,b::s=>by
  simp only[Aey]
  split
  .rename_i h;rw[Amc];rw[Aup]at h;simp[h]
  .rename_i h;have h2:=h;rw[Aup]at h2;simp[h,h2]
theorem Bcx:∀{a b:List api_Value},(a=[]∨b=[])->cmpI a.length b.length=Aey a b
 |[],[],_=>rfl
 |[],_::r,_=>by
  simp only[Aey,cmpI,zB,yG];rw[if_pos (by omega)]
 |_::r,[],_=>by
  simp only[Aey,cmpI,zB,yG];rw[if_neg (by omega),if_pos (by omega)]
 |_::_,_::_,h=>by simp at h
namespace q62_
theorem loop{a b:List api_Value}{φ:Int->Prop}(hn:Bax a):∀(r s:List api_Value)(k:Nat),a.drop k=r->b.drop k=s->k<=a.length->k<=b.length->φ (Aey r s)->L1 a b k φ:=by
 have fin:∀(r s:List api_Value)(k:Nat),a.drop k=r->b.drop k=s->k<=a.length->k<=b.length->(r=[]∨s=[])->φ (Aey r s)->L2 a b φ:=by
  intro r s k hr hs hk hk2 h0 h;apply L2_step;refine⟨_,q84_.spec,?_⟩;have e:cmpI a.length b.length=cmpI r.length s.length:=by
   rw[<-hr,<-hs,xA,xA];unfold cmpI
   repeat' split
   all_goals omega
  rw[e,Bcx h0];exact h
 intro r
 induction r with
 |nil=>
  intro s k hr hs hk hk2 h;apply L1_step;have:=Ab7 hr;rw[if_neg (by omega)];exact fin _ _ k hr hs hk hk2 (.inl rfl) h
 |cons x r ih=>
  intro s k hr hs hk hk2 h;apply L1_step;have hlt:=Ab8 hr;rw[if_pos (by omega)]
  match s,hs,h with
  |[],hs,h=>
   have:=Ab7 hs;rw[if_neg (by omega)];exact fin _ _ k hr hs hk hk2 (.inr rfl) h
  |y::s,hs,h=>
   have hlt2:=Ab8 hs;rw[if_pos (by omega)];refine⟨x,Ab6 hr,y,Ab6 hs,_,q39_.spec (hn.2 x (zE (Aax hr))),?_⟩;simp only[Aey]at h
   split
   .rename_i he;rw[if_pos he]at h;rw[Aa4 (by have:=hn.1;unfold Big at this;omega)];exact ih s (k+1) (Aap hr) (Aap hs) hlt hlt2 h
   .rename_i he;rw[if_neg he]at h;exact h
theorem spec{a b:List api_Value}(hn:Bax a):C a b (Aey a b):=by
 obtain⟨r,h1,h2⟩:=enter a b (fun r=>r=Aey a b) (loop hn a b 0 rfl rfl (by omega) (by omega) rfl);rw[<-h1];exact h2
end q62_
theorem q85_.spec{a b:List api_Value}(hn:Bax a):q85_.C a b (decide (a=b)):=by
 obtain⟨r,h1,h2⟩:=q85_.enter a b (fun r=>r=decide (a=b)) ⟨_,q62_.spec hn,by
  by_cases h:a=b
  .simp [h,Amc.2 rfl]
  .have:Aey a b≠0:=fun hh=>h (Amc.1 hh)
   simp[h,this]⟩
 rw[<-h1];exact h2
def be:Nat->Nat->List Int
 |0,_=>[]
 |j+1,u=>((u / 2^(8*j)%256:Nat):Int)::be j u
theorem Arj:∀{j u},(be j u).length=j
 |0,_=>rfl
 |j+1,u=>by simp[be,Arj]
theorem Awu:∀{j u},∀x∈be j u,0<=x/\x<256
 |0,_,_,h=>by simp[be]at h
 |j+1,u,x,h=>by
  simp only[be,zH]at h;rcases h with rfl|h
  .omega
  .exact Awu x h
theorem Bco:∀{j u v},be j u=be j v->u%2^(8*j)=v%2^(8*j)
 |0,u,v,_=>by simp[Nat.mod_one]
 |j+1,u,v,h=>by
  simp only[be,zM]at h;have ih:=Bco h.2;have e:2^(8*(j+1))=2^(8*j)*256:=by rw[Nat.mul_add,Nat.pow_add]
  rw[e,Nat.mod_mul,Nat.mod_mul,ih];have:u / 2^(8*j)%256=v / 2^(8*j)%256:=by omega
  rw[this]
def Ah6(n:Int):Nat:=(n%18446744073709551616).toNat ^^^ 9223372036854775808
theorem Anx{n:Int}:Ah6 n<2^64:=Nat.xor_lt_two_pow (by omega) (by decide)
theorem Bba{m n:Int}(hm : -9223372036854775808<=m/\m<9223372036854775808)(hn : -9223372036854775808<=n/\n<9223372036854775808)(h:Ah6 m=Ah6 n):m=n:=by
 unfold Ah6 at h;have h2:(m%18446744073709551616).toNat=(n%18446744073709551616).toNat:=by
  have:=congrArg (· ^^^ 9223372036854775808) h;simpa[Nat.xor_assoc]using this
 omega
namespace q119_
theorem loop{φ:List Int->Prop}{u:Nat}(hu:u<2^64):∀(j:Nat)(acc:List Int),j<=8->acc.length+j<=1000->φ (acc++be j u)->L1 acc u (8*(j:Int)-8) φ
 |0,acc,hj,hl,h=>by
  apply L1_step;rw[if_neg (by omega)];simpa[be]using h
 |j+1,acc,hj,hl,h=>by
  apply L1_step;rw[if_pos (by omega)];refine⟨by omega,by omega,?_⟩;have e1:8*((j+1:Nat):Int)-8=((8*j:Nat):Int):=by omega
  rw[e1,Aed (k:=.u64) (by simpa[top]using hu),IntKind.wrap_u8,Abb (by omega) (by omega)];have e2:((8*j:Nat):Int)-8=8*(j:Int)-8:=by omega
  rw[e2];refine loop hu j _ (by omega) (by simp;omega) ?_;have e3:((u / 2^(8*j):Nat):Int)%256=((u / 2^(8*j)%256:Nat):Int):=by omega
  rw[e3];simpa[be]using h
theorem spec{n:Int}{acc:List Int}(hl:acc.length<=900):C n acc (acc++be 8 (Ah6 n)):=by
 obtain⟨r,h1,h2⟩:=enter n acc (fun r=>r=acc++be 8 (Ah6 n)) (by
  have e:bXor .u64 (IntKind.wrap .u64 n) 9223372036854775808=(Ah6 n:Int):=by
   have e1:IntKind.wrap .u64 n=(((n%18446744073709551616).toNat:Nat):Int):=by
    simp only[IntKind.wrap,IntKind.bits,IntKind.signed];simp;omega
   rw[e1];exact Bf3 (k:=.u64) (b:=9223372036854775808) (by simp only[top];omega) (by simp only[top];omega)
  rw[e]
  exact loop Anx 8 acc (by omega) (by omega) rfl)
 rw[<-h1];exact h2
end q119_
def esc:List UInt8->List Int
 |[]=>[]
 |b::r=>if u8i b=0 then 0::255::esc r else u8i b::esc r
theorem Bfm{l:List UInt8}{b:UInt8}:esc (l++[b])=esc l++esc [b]:=by
 induction l with
 |nil=>rfl
 |cons a l ih=>simp only[zN,esc,ih];split<;>rfl
theorem Ako:∀{l:List UInt8},∀x∈esc l,0<=x/\x<256
 |[],x,h=>by simp[esc]at h
 |b::r,x,h=>by
  simp only[esc]at h
  split at h
  .simp only[zH]at h;rcases h with rfl|rfl|h
   .omega
   .omega
   .exact Ako x h
  .simp only[zH]at h;rcases h with rfl|h
   .exact Ayo
   .exact Ako x h
theorem Ap6:∀{l:List UInt8},(esc l).length<=2*l.length
 |[]=>by simp[esc]
 |b::r=>by
  have:=Ap6 (l:=r);simp only[esc]
  split<;>simp only[zB]<;>omega
theorem Ato:∀{a b:List UInt8}{r s:List Int},esc a++(0::1::r)=esc b++(0::1::s)->a=b/\r=s
 |[],[],r,s,h=>by simpa[esc]using h
 |[],y::b,r,s,h=>by
  simp only[esc]at h
  split at h
  .simp at h
  .rename_i hy;simp only[xD,zN,zM]at h;exact absurd h.1.symm hy
 |x::a,[],r,s,h=>by
  simp only[esc]at h
  split at h
  .simp at h
  .rename_i hx;simp only[xD,zN,zM]at h;exact absurd h.1 hx
 |x::a,y::b,r,s,h=>by
  simp only[esc]at h
  split at h
  .rename_i hx
   split at h
   .rename_i hy;simp only[zN,zM,true_and]at h;obtain⟨h1,h2⟩:=Ato h;exact⟨by rw[h1,Aly.1 (hx.trans hy.symm)],h2⟩
   .rename_i hy;simp only[zN,zM]at h;exact absurd h.1.symm hy
  .rename_i hx
   split at h
   .rename_i hy;simp only[zN,zM]at h;exact absurd h.1 hx
   .rename_i hy;simp only[zN,zM]at h;obtain⟨h1,h2⟩:=Ato h.2;exact⟨by rw[h1,Aly.1 h.1],h2⟩
def keyJ(v:api_Value):List Int:=v.Kind::(if v.Kind=1∨v.Kind=3 then be 8 (Ah6 v.Num)else if v.Kind=2 then esc v.Str.toList++[0,1]else[])
def Ai4(v:api_Value):Prop:=-9223372036854775808<=v.Num/\v.Num<9223372036854775808
theorem Aen{v:api_Value}(h:Aaz v=true):v.Kind=0/\v.Num=0/\v.Str.toList=[]∨v.Kind=1/\v.Str.toList=[]∨v.Kind=2/\v.Num=0/\v.Str.toList.length<=200∨v.Kind=3/\1<=v.Num/\v.Str.toList=[]:=by
 simpa[Aaz]using h
theorem As7{v:api_Value}(h:Aaz v=true):∀x∈keyJ v,0<=x/\x<256:=by
 intro x hx;have hk:0<=v.Kind/\v.Kind<=3:=by rcases Aen h with h|h|h|h<;>omega
 simp only[keyJ,zH]at hx;rcases hx with rfl|hx
 .omega
 .split at hx
  .exact Awu x hx
  .split at hx
   .rcases zO.1 hx with hx|hx
    .exact Ako x hx
    .simp at hx;rcases hx with rfl|rfl<;>omega
   .simp at hx
theorem Axq{v:api_Value}(h:Aaz v=true):(keyJ v).length<=403:=by
 simp only[keyJ,zB]
 split
 .rw [Arj];omega
 .split
  .have:=Ap6 (l:=v.Str.toList);have:v.Str.toList.length<=200:=by
    rcases Aen h with h|h|h|h
    .rw [h.2.2];simp
    .rw [h.2];simp
    .exact h.2.2
    .rw [h.2.2];simp
   simp;omega
  .simp
theorem Bfu{v w:api_Value}{r s:List Int}(hv:Aaz v=true)(hw:Aaz w=true)(nv:Ai4 v)(nw:Ai4 w)(h:keyJ v++r=keyJ w++s):v=w/\r=s:=by
 obtain⟨k,n,t⟩:=v;obtain⟨k',n',t'⟩:=w;simp only[keyJ,zN,zM]at h;obtain⟨rfl,h⟩:=h;have hv:=Aen hv;have hw:=Aen hw;simp only at hv hw;simp only[api_Value.mk.injEq,true_and];by_cases h1:k=1∨k=3
 .rw [if_pos h1,if_pos h1]at h;have h3:=List.append_inj h (by rw[Arj,Arj]);have h2:=Bco h3.1;rw[xN Anx,xN Anx]at h2;have e:=Bba nv nw h2;simp only at e;refine⟨⟨e,?_⟩,h3.2⟩;rw[<-Ale];have a1:t.toList=[]:=by rcases hv with h|h|h|h<;>first|exact h.2.2|exact h.2|omega
  have a2:t'.toList=[]:=by rcases hw with h|h|h|h<;>first|exact h.2.2|exact h.2|omega
  rw[a1,a2]
 .rw [if_neg h1,if_neg h1]at h;by_cases h2:k=2
  .rw [if_pos h2,if_pos h2,yD,yD]at h;obtain⟨e1,e2⟩:=Ato h;rw[Ale]at e1;exact⟨⟨by omega,e1⟩,e2⟩
  .rw [if_neg h2,if_neg h2]at h;have a1:t.toList=[]:=by rcases hv with h|h|h|h<;>first|exact h.2.2|exact h.2|omega
   have a2:t'.toList=[]:=by rcases hw with h|h|h|h<;>first|exact h.2.2|exact h.2|omega
   exact⟨⟨by omega,by rw[<-Ale,a1,a2]⟩,by simpa using h⟩
def keyW(v:api_Value):ByteArray:=Akh (keyJ v)
namespace q124_
theorem loop{v:api_Value}{φ:ByteArray×Int->Prop}(hk:v.Kind=2)(hs:v.Str.toList.length<=200)(h:φ (keyW v,0)):∀(r:List UInt8)(k:Nat),v.Str.toList.drop k=r->k<=v.Str.toList.length->L1 v (2::esc (v.Str.toList.take k)) k φ:=by
 intro r
 induction r with
 |nil=>
  intro k hd hk2;apply L1_step;have:=Ab7 hd;rw[Acp,if_neg (by omega),yY this];have hl:=Ap6 (l:=v.Str.toList);have e:keyJ v=(2::esc v.Str.toList)++[0,1]:=by simp[keyJ,hk]
  refine⟨by simp only[zB];omega,fun x hx=>?_,?_⟩
  .rcases zO.1 hx with hx|hx
   .rcases zH.1 hx with rfl|hx
    .omega
    .exact Ako x hx
   .simp at hx;rcases hx with rfl|rfl<;>omega
  .rw [<-e];exact h
 |cons b r ih=>
  intro k hd hk2;have hlt:=Ab8 hd;apply L1_step;rw[Acp,if_pos (by omega)];have hl:=Ap6 (l:=v.Str.toList.take k);rw[yZ]at hl;refine⟨b,Aeh (Aax hd),by simp only[zB];omega,b,Aeh (Aax hd),?_⟩;have ih:=ih (k+1) (Aap hd) hlt;have e:v.Str.toList.take (k+1)=v.Str.toList.take k++[b]:=by rw[yL,Aax hd];rfl
  rw[e,Bfm]at ih;have next:∀l,l=2::(esc (v.Str.toList.take k)++esc [b])->L4 v l k φ:=by
   rintro _ rfl;apply L4_step;rw[Aa4 (by omega)];exact ih
  split
  .rename_i h0;refine⟨by simp only[zD,zB,yG];omega,next _ ?_⟩;simp[esc,h0]
  .rename_i h0;exact next _ (by simp[esc,h0])
theorem spec{v:api_Value}(hv:Aaz v=true):C v (keyW v,0):=by
 obtain⟨r,h1,h2⟩:=enter v (fun r=>r=(keyW v,0)) (by
  refine⟨_,q121_.spec,?_⟩;rw[if_pos hv];have hc:=Aen hv;have hk:0<=v.Kind/\v.Kind<=3:=by rcases hc with h|h|h|h<;>omega
  have ek:IntKind.wrap .u8 v.Kind=v.Kind:=by rw[IntKind.wrap_u8];omega
  have two:∀b,(v.Kind=1∨v.Kind=3)->L2 v b fun r=>r=(keyW v,0):=by
   intro b hb;apply L2_step;rw[ek];have e:keyJ v=[v.Kind]++be 8 (Ah6 v.Num):=by simp[keyJ,hb]
   refine⟨_,q119_.spec (by simp),?_,?_⟩
   .rw [<-e];exact As7 hv
   .rw [<-e];rfl
  have three:¬(v.Kind=1∨v.Kind=3)->L3 v fun r=>r=(keyW v,0):=by
   intro hb;apply L3_step;rw[ek]
   split
   .rename_i h2;have hs:v.Str.toList.length<=200:=by
     rcases hc with h|h|h|h
     .omega
     .omega
     .exact h.2.2
     .omega
    have:=loop (φ:=fun r=>r=(keyW v,0)) h2 hs rfl v.Str.toList 0 rfl (by omega);rw[h2];simpa[esc]using this
   .rename_i h2;refine⟨fun x hx=>by simp at hx;omega,?_⟩;simp[keyW,keyJ,hb,h2]
  split
  .rename_i h1;exact two _ (.inl h1)
  .rename_i h1
   split
   .rename_i h3;exact two _ (.inr h3)
   .rename_i h3;exact three (by omega))
 rw[<-h1];exact h2
end q124_
def b8(x:Int):UInt8:=UInt8.ofNat x.toNat
theorem Bk4{x y:Int}(hx:0<=x/\x<256)(hy:0<=y/\y<256)(h:b8 x=b8 y):x=y:=by
 unfold b8 at h;have:=congrArg UInt8.toNat h;simp at this;omega
theorem Asi:∀{l m:List Int},(∀x∈l,0<=x/\x<256)->(∀x∈m,0<=x/\x<256)->l.map b8=m.map b8->l=m
 |[],[],_,_,_=>rfl
 |[],_::_,_,_,h=>by simp at h
 |_::_,[],_,_,h=>by simp at h
 |x::l,y::m,h1,h2,h=>by
  simp only[xG,zM]at h;rw[Bk4 (h1 x (by simp)) (h2 y (by simp)) h.1,Asi (fun z hz=>h1 z (by simp[hz])) (fun z hz=>h2 z (by simp[hz])) h.2]
theorem Bdp{v:api_Value}:(keyW v).data.toList=(keyJ v).map b8:=by
 unfold keyW Akh b8;simp
theorem Bdq{v:api_Value}:(keyW v).size=(keyJ v).length:=by
 have:(keyW v).size=(keyW v).data.toList.length:=rfl;rw[this,Bdp,zF]
def Adu(l:List api_Value):List Int:=l.flatMap keyJ
theorem Apz{l:List api_Value}(h:∀v∈l,Aaz v=true):∀x∈Adu l,0<=x/\x<256:=by
 intro x hx;obtain⟨v,hv,hx⟩:=wK.1 hx;exact As7 (h v hv) x hx
theorem Av7:∀{l m:List api_Value},l.length=m.length->(∀v∈l,Aaz v=true/\Ai4 v)->(∀v∈m,Aaz v=true/\Ai4 v)->Adu l=Adu m->l=m
 |[],[],_,_,_,_=>rfl
 |[],_::_,h,_,_,_=>by simp at h
 |_::_,[],h,_,_,_=>by simp at h
 |v::l,w::m,hl,h1,h2,h=>by
  simp only[Adu,yV]at h;have a:=h1 v (by simp);have b:=h2 w (by simp);obtain⟨e1,e2⟩:=Bfu a.1 b.1 a.2 b.2 h;rw[e1,Av7 (by simpa using hl) (fun z hz=>h1 z (by simp[hz])) (fun z hz=>h2 z (by simp[hz])) e2]
def Ac6(l:List api_Value):ByteArray:=bstr ((Adu l).map b8)
theorem Bdt{l m:List api_Value}(hl:l.length=m.length)(h1:∀v∈l,Aaz v=true/\Ai4 v)(h2:∀v∈m,Aaz v=true/\Ai4 v):Ac6 l=Ac6 m↔l=m:=by
 constructor
 .intro h;have h3:(Adu l).map b8=(Adu m).map b8:=by
   have:=congrArg ByteArray.toList h;unfold Ac6 at this
   rwa [Azz,Azz]at this
  exact Av7 hl h1 h2 (Asi (Apz fun v hv=>(h1 v hv).1) (Apz fun v hv=>(h2 v hv).1) h3)
 .rintro rfl;rfl
def pick(l:List api_Value)(n:Nat):List api_Value:=(Aau n).filterMap fun i=>l[i]?
theorem Axj{α β:Type}{f g:α->Option β}:∀{l:List α},(∀a∈l,f a=g a)->l.filterMap f=l.filterMap g
 |[],_=>rfl
 |a::l,h=>by
  have ih:=Axj (l:=l) fun b hb=>h b (by simp[hb]);simp only[yE,h a (by simp),ih]
theorem Bcq{n k:Nat}(hn:n<2^32):(Aau n).filter (fun i=>decide (i<k+1))=(Aau n).filter (fun i=>decide (i<k))++if n.testBit k=true then[k]else[]:=by
 refine At3 (Af4.filter _) ?_ fun x=>?_
 .rw [List.pairwise_append];refine⟨Af4.filter _,by split<;>simp,fun a ha b hb=>?_⟩;have ha:=(xQ.1 ha).2
  split at hb
  .simp at hb ha;omega
  .simp at hb
 .simp only[xQ,zO,decide_eq_true_eq]
  split
  .rename_i h;rw[zQ];constructor
   .rintro ⟨h1,h2⟩;by_cases hx:x<k
    .exact .inl ⟨h1,hx⟩
    .exact .inr (by omega)
   .rintro (⟨h1,h2⟩|rfl)
    .exact ⟨h1,by omega⟩
    .exact ⟨(Aca hn).2 h,by omega⟩
  .rename_i h;constructor
   .rintro ⟨h1,h2⟩;have:x≠k:=fun e=>h (e ▸ (Aca hn).1 h1);exact .inl ⟨h1,by omega⟩
   .rintro (⟨h1,h2⟩|h1)
    .exact ⟨h1,by omega⟩
    .simp at h1
namespace q49_
theorem spec{r:api_Row}{n:Nat}(hn:n<2^32)(hr:r.Values.length<=1000):C r n (pick r.Values n):=by
 obtain⟨q,h1,h2⟩:=enter r n (fun q=>q=pick r.Values n) (by
  have loop:∀k,k<=r.Values.length->L1 r n (((Aau n).filter fun i=>decide (i<k)).filterMap fun i=>r.Values[i]?) k fun q=>q=pick r.Values n:=by
   refine down ?_ ?_
   .apply L1_step;rw[if_neg (by omega)];unfold pick;rw[List.filterMap_filter];refine Axj fun i hi=>?_;by_cases h:i<r.Values.length
    .simp [h]
    .simp [h]
   .intro k hk h;apply L1_step;rw[if_pos (by omega)];have hget:=zA hk;have hlen:(((Aau n).filter fun i=>decide (i<k)).filterMap fun i=>r.Values[i]?).length<=32:=
     yR (yS _ _) (yR (xB _ _) Adz)
    rw[Bcq hn,xT]at h;refine⟨_,q104_.spec hn,?_⟩;have next:∀l,l=(((Aau n).filter fun i=>decide (i<k)).filterMap fun i=>r.Values[i]?)++((if n.testBit k=true then[k]else[]).filterMap fun i=>r.Values[i]?)->L2 r n l k fun q=>q=pick r.Values n:=by
     rintro _ rfl;apply L2_step;rw[Aa4 (by omega)];exact h
    split
    .rename_i hb;exact⟨r.Values[k],Aa8 hget,by omega,next _ (by simp[hb,hget])⟩
    .rename_i hb;exact next _ (by simp[hb])
  have:=loop 0 (yJ _);have e:(Aau n).filter (fun i=>decide (i<0))=[]:=by rw[List.filter_eq_nil_iff];simp
  rw[e]at this
  exact this)
 rw[<-h1];exact h2
end q49_
def Aif(a b:List api_Value)(n:Nat):Bool:=decide (pick a n=pick b n)
theorem Bgx{a b:List api_Value}(hl:a.length=b.length):∀{l:List Nat},(l.filterMap fun i=>a[i]?)=(l.filterMap fun i=>b[i]?)↔∀i∈l,a[i]?=b[i]?
 |[]=>by simp
 |k::l=>by
  have ih:=Bgx (a:=a) (b:=b) hl (l:=l);by_cases h:k<a.length
  .have e1:=zA h;have e2:=zA (l:=b) (i:=k) (by omega);simp only[yE,e1,e2,zM,ih,xV,zJ]
  .have e1:a[k]?=none:=zU (by omega);have e2:b[k]?=none:=zU (by omega);simp only[yE,e1,e2,ih,xV,true_and]
theorem Aue{a b:List api_Value}{n:Nat}(hn:n<2^32)(hl:a.length=b.length):Aif a b n=true↔∀i,n.testBit i=true->a[i]?=b[i]?:=by
 unfold Aif pick;rw[decide_eq_true_iff,Bgx hl];constructor
 .exact fun h i hi=>h i ((Aca hn).2 hi)
 .exact fun h i hi=>h i ((Aca hn).1 hi)
theorem Aqz{l:List api_Value}{n:Nat}:∀v∈pick l n,v∈l:=by
 intro v hv;obtain⟨i,_,hi⟩:=wC.1 hv;exact zE hi
theorem Bgd{l:List api_Value}{n:Nat}:(pick l n).length<=32:=yR (yS _ _) Adz
theorem q63_.spec{a b:api_Row}{n:Nat}(hn:n<2^32)(ha:a.Values.length<=1000)(hb:b.Values.length<=1000)(hs:∀v∈a.Values,v.Str.toList.length<Big):q63_.C a b n (Aif a.Values b.Values n):=by
 obtain⟨q,h1,h2⟩:=q63_.enter a b n (fun q=>q=Aif a.Values b.Values n)
  ⟨_,q49_.spec hn ha,_,q49_.spec hn hb,_,q85_.spec ⟨by have:=Bgd (l:=a.Values) (n:=n);unfold Big;omega,fun v hv=>hs v (Aqz v hv)⟩,rfl⟩
 rw[<-h1];exact h2
structure TV(t:api_Table):Prop where
 name:Aia t.Name=true
 na:t.Attrs.length<=16
 nr:t.Rows.length<=1000
 names:Afp t.Attrs=true
 rows:Ach t.Attrs.length 0 t.Rows=0
theorem Amy{t:api_Table}:Ads t=0↔TV t:=by
 unfold Ads;constructor
 .intro h
  split at h
  .split at h
   .cases h
   .split at h
    .cases h
    .split at h
     .rename_i h1 h2 h3 h4;exact⟨h1,by omega,by omega,h4,h⟩
     .cases h
  .cases h
 .intro h;rw[if_pos h.name,if_neg (by have:=h.na;omega),if_neg (by have:=h.nr;omega),if_pos h.names];exact h.rows
theorem Aiv{n:Nat}:∀{l:List api_Row}{last:Int},Ach n last l=0->∀r∈l,r.Values.length=n/\(∀v∈r.Values,Aaz v=true)/\last<r.ID
 |[],_,_,r,hr=>by cases hr
 |a::l,last,h,r,hr=>by
  simp only[Ach]at h
  split at h
  .cases h
  .split at h
   .split at h
    .rename_i h1 h2 h3;unfold Adx at h3;rw[wJ]at h3;rcases zH.1 hr with rfl|hr
     .exact ⟨h2,h3,by omega⟩
     .obtain ⟨e1,e2,e3⟩:=Aiv h r hr;exact⟨e1,e2,by omega⟩
    .cases h
   .cases h
theorem TV.len{t:api_Table}(h:TV t){r:api_Row}(hr:r∈t.Rows):r.Values.length=t.Attrs.length:=(Aiv h.rows r hr).1
theorem TV.val{t:api_Table}(h:TV t){r:api_Row}(hr:r∈t.Rows):∀v∈r.Values,Aaz v=true:=(Aiv h.rows r hr).2.1
theorem Ber{v:api_Value}(h:Aaz v=true):v.Str.toList.length<=200:=by
 rcases Aen h with h|h|h|h
 .rw [h.2.2];simp
 .rw [h.2];simp
 .exact h.2.2
 .rw [h.2.2];simp
def TNum(t:api_Table):Prop:=∀r∈t.Rows,∀v∈r.Values,Ai4 v
theorem Av8:∀{l:List api_Value},(∀v∈l,Aaz v=true)->(Adu l).length<=403*l.length
 |[],_=>by simp[Adu]
 |a::l,h=>by
  have h1:=Av8 (l:=l) fun v hv=>h v (by simp[hv]);have h2:=Axq (h a (by simp));simp only[Adu,yV,zD,zB]at h1⊢;omega
def RwOK(m:Nat)(r:api_Row):Prop:=m<=16/\r.Values.length=m/\∀v∈r.Values,Aaz v=true/\Ai4 v
def eqE(e f:tractable_entry)(a:Nat):Prop:=e.row.Values[a]?=f.row.Values[a]?
theorem Ap5:EqvA eqE:=⟨fun _ _=>rfl,fun h=>h.symm,fun h k=>h.trans k⟩
theorem Ba9{a b:List api_Value}(hl:a.length=b.length):∀{l:List Nat},(l.filterMap fun i=>a[i]?).length=(l.filterMap fun i=>b[i]?).length
 |[]=>rfl
 |i::l=>by
  have ih:=Ba9 hl (l:=l);rw[yE,yE];by_cases h:i<a.length
  .rw [zA h,zA (by omega)];simp only[zB,ih]
  .rw [zU (by omega),zU (by omega)];exact ih
theorem Atg{m n:Nat}{e f:tractable_entry}(hn:n<2^32)(he:RwOK m e.row)(hf:RwOK m f.row):pick e.row.Values n=pick f.row.Values n↔agA eqE n e f:=by
 have:=Aue (a:=e.row.Values) (b:=f.row.Values) hn (by rw[he.2.1,hf.2.1]);unfold Aif at this;rw[decide_eq_true_iff]at this;exact this
theorem Aqw{m n:Nat}{r s:api_Row}(hr:RwOK m r)(hs:RwOK m s):Ac6 (pick r.Values n)=Ac6 (pick s.Values n)↔pick r.Values n=pick s.Values n:=
 Bdt (Ba9 (by rw[hr.2.1,hs.2.1])) (fun v hv=>hr.2.2 v (Aqz v hv)) fun v hv=>hs.2.2 v (Aqz v hv)
theorem Bdr{v:api_Value}:(keyW v).data.toList=(Adu [v]).map b8:=by
 unfold keyW Akh Adu;simp only[yV,List.flatMap_nil,yI];rfl
namespace q109_
theorem spec{m n:Nat}{r:api_Row}(hr:RwOK m r)(hn:n<2^m):C r n (Ac6 (pick r.Values n)):=by
 obtain⟨hm,hrl,hval⟩:=hr;have hn32:n<2^32:=yH hn (zW (by decide) (by omega));have hl:=Adz (n:=n);obtain⟨q,h1,h2⟩:=enter r n (fun q=>q=Ac6 (pick r.Values n)) (by
  refine⟨_,q83_.spec hn32,?_⟩;have loop:∀j,j<=(Aau n).length->L1 r ((Adu (((Aau n).take j).filterMap fun i=>r.Values[i]?)).map b8) ((Aau n).map fun(i:Nat)=>(i:Int)) (j:Int) fun q=>q=Ac6 (pick r.Values n):=by
   refine down ?_ ?_
   .apply L1_step;rw[zF,if_neg (by omega),List.take_length];rfl
   .intro j hj h;apply L1_step;rw[zF,if_pos (by omega)];have hget:=zA hj;generalize(Aau n)[j]=i at hget;have hi:=(Aca hn32).1 (zE hget);have hilt:i<m:=by
     false_or_by_contra
     rename_i hh;rw[yX (yH hn (zW (by decide) (by omega)))]at hi;cases hi
    have hv:=zA (l:=r.Values) (i:=i) (by omega);generalize r.Values[i]'(by omega)=v at hv;have hvv:=(hval v (zE hv)).1;refine⟨(i:Int),by rw[Aci,zS,hget];rfl,v,Aa8 hv,(keyW v,0),q124_.spec hvv,?_,?_⟩
    .have a1:=Av8 (l:=((Aau n).take j).filterMap fun i=>r.Values[i]?) (fun v hv=>by
      obtain⟨i,_,hi⟩:=wC.1 hv
      exact(hval v (zE hi)).1)
     have a2:(((Aau n).take j).filterMap fun i=>r.Values[i]?).length<=32:=yR (yS _ _) (by rw[yZ];omega);have a3:=Axq hvv;rw[Bdq,zF];omega
    .rw [Aa4 (by omega)];have e:(((Aau n).take (j+1)).filterMap fun i=>r.Values[i]?)=(((Aau n).take j).filterMap fun i=>r.Values[i]?)++[v]:=by
      rw[yL,hget,xT];simp[hv]
     rw[e]at h;have e2:∀l:List api_Value,Adu (l++[v])=Adu l++Adu [v]:=fun l=>by simp[Adu]
     rw[e2,xR]at h;rw[Bdr];exact h
  have:=loop 0 (yJ _)
  simpa[Adu]using this)
 rw[<-h1];exact h2
end q109_
def kE(n:Nat)(e:tractable_entry):List api_Value:=pick e.row.Values n
structure HT(n:Nat)(p:List tractable_entry)(bm:List (ByteArray×Int)):Prop where
 has:∀r∈p,∃i:Nat,mget (Ac6 (kE n r)) bm=some (i:Int)/\(Abj (kE n) p)[i]?=some (kE n r)
 old:∀b v,mget b bm=some v->∃r∈p,Ac6 (kE n r)=b
namespace q64_
theorem spec{m n:Nat}{l:List tractable_entry}(hl:∀e∈l,RwOK m e.row)(hn:n<2^m)(hlen:l.length<=1000):C l n (blk (kE n) l):=by
 obtain⟨q,h1,h2⟩:=enter l n (fun q=>q=blk (kE n) l) (by
  have go:∀(rest p:List tractable_entry)(bm:List (ByteArray×Int)),p++rest=l->HT n p bm->L1 l n bm (blk (kE n) p) (p.length:Int) (fun q=>q=blk (kE n) l):=by
   intro rest
   induction rest with
   |nil=>
    intro p bm hp hb;rw[yI]at hp;subst hp;apply L1_step;rw[if_neg (by omega)]
   |cons x rest ih=>
    intro p bm hp hb;have hpl:p.length+rest.length+1=l.length:=by rw[<-hp];simp;omega
    have hmem:∀r∈p,r∈l:=fun r hr=>by rw[<-hp];exact zX _ hr
    have hx:x∈l:=by rw[<-hp];simp
    have hget:lget l (p.length:Int)=some x:=by
     rw[Aci,<-hp,yP (zV _),Nat.sub_self];rfl
    have hkl:(Abj (kE n) p).length<=p.length:=Av6;have hbl:(blk (kE n) p).length=(Abj (kE n) p).length:=Ba1;have last:∀(out:List (List tractable_entry))(bm':List (ByteArray×Int))(i:Nat),HT n (p++[x]) bm'->(Abj (kE n) (p++[x]))[i]?=some (kE n x)->out=base id (kE n) p x ->
      L2 l n bm' out x (i:Int) (p.length:Int) (fun q=>q=blk (kE n) l):=fun out bm' i hb' hi hout=>by
     subst hout;apply L2_step;have hcl:(clB (kE n) p (kE n x)).length<=p.length:=Bhh;refine⟨clB (kE n) p (kE n x),Aa8 (Bf4 (F:=id) hi),by omega,?_⟩;have hs:=Bf7 (F0:=id) (F:=id) hi fun _ _ _=>rfl;have e:lset (base id (kE n) p x) (i:Int) (clB (kE n) p (kE n x)++[x])=blk (kE n) (p++[x]):=by
      unfold lset;rw[zC];simpa using hs
     rw[e,Aa4 (by omega)];have:=ih (p++[x]) bm' (by rw[yD];exact hp) hb';rw[zD,yM]at this;exact this
    apply L1_step;rw[if_pos (by omega)];refine⟨x,hget,Ac6 (kE n x),q109_.spec (hl x hx) hn,?_⟩;by_cases hh:kE n x∈Abj (kE n) p
    .obtain ⟨y,hy,hyk⟩:=Afo.1 hh;obtain⟨i,g1,g2⟩:=hb.has y hy;rw[hyk]at g1 g2;have hm:mhas (Ac6 (kE n x)) bm=true:=by unfold mhas;rw[g1];rfl
     rw[if_pos hm];have hd:Asj (Ac6 (kE n x)) bm 0=(i:Int):=by unfold Asj;rw[g1];rfl
     rw[hd];refine last _ bm i ⟨fun r hr=>?_,fun b v hv=>?_⟩ (Aj8 g2) (by rw[Bf6 hh];simp)
     .rcases zO.1 hr with hr|hr
      .obtain ⟨j,j1,j2⟩:=hb.has r hr;exact⟨j,j1,Aj8 j2⟩
      .rw [zQ]at hr;subst hr;exact⟨i,g1,Aj8 g2⟩
     .obtain ⟨r,hr,e⟩:=hb.old b v hv;exact⟨r,zX _ hr,e⟩
    .have hno:mget (Ac6 (kE n x)) bm=none:=by
      cases hg:mget (Ac6 (kE n x)) bm with
      |none=>rfl
      |some v=>
       exfalso;obtain⟨r,hr,e⟩:=hb.old _ _ hg;have e2:=(Aqw (hl r (hmem r hr)) (hl x hx)).1 e;exact hh (Afo.2 ⟨r,hr,e2⟩)
     have hm:¬mhas (Ac6 (kE n x)) bm=true:=by unfold mhas;rw[hno];simp
     rw[if_neg hm];refine⟨by omega,?_⟩;have hnew:(Abj (kE n) (p++[x]))[(blk (kE n) p).length]?=some (kE n x):=by
      rw[Aj9,if_neg hh,hbl,yP (zV _),Nat.sub_self];rfl
     refine last _ _ _ ⟨fun r hr=>?_,fun b v hv=>?_⟩ hnew (by rw[Bf5 hh];simp)
     .rcases zO.1 hr with hr|hr
      .obtain ⟨j,j1,j2⟩:=hb.has r hr;refine⟨j,?_,Aj8 j2⟩;rw[Agv,if_neg fun e=>?_]
       .exact j1
       .have e2:=(Aqw (hl x hx) (hl r (hmem r hr))).1 e;exact hh (Afo.2 ⟨r,hr,e2.symm⟩)
      .rw [zQ]at hr;subst hr;exact⟨_,by rw[Agv,if_pos rfl],hnew⟩
     .rw [Agv]at hv;by_cases e:Ac6 (kE n x)=b
      .exact ⟨x,by simp,e⟩
      .rw [if_neg e]at hv;obtain⟨r,hr,e⟩:=hb.old b v hv;exact⟨r,zX _ hr,e⟩
  have:=go l [] [] rfl ⟨fun r hr=>by simp at hr,fun b v hv=>by simp[mget]at hv⟩
  exact this)
 subst h1;exact h2
end q64_
theorem blk_perm'{α κ:Type}[DecidableEq κ]{f:α->κ}:∀l:List α,l.Perm (blk f l).flatten:=by
 intro l;have key:∀(ks:List κ)(l:List α),ks.Nodup->(∀x∈l,f x∈ks)->l.Perm (ks.map (clB f l)).flatten:=by
  intro ks
  induction ks with
  |nil=>
   intro l _ h;cases l with
   |nil=>exact List.Perm.refl _
   |cons x l=>exact absurd (h x (by simp)) (by simp)
  |cons k ks ih=>
   intro l hn h;have hn:=wL.1 hn;have h1:l.Perm (l.filter (fun x=>decide (f x=k))++l.filter (fun x=>!decide (f x=k))):=(List.filter_append_perm _ l).symm;rw[xG,yW];refine h1.trans (List.Perm.append_left _ ?_);have h2:=ih (l.filter fun x=>!decide (f x=k)) hn.2 fun x hx=>by
    obtain⟨hx,hk⟩:=xQ.1 hx;rcases zH.1 (h x hx)with e|e
    .simp [e]at hk
    .exact e
   refine h2.trans ?_;have e:ks.map (clB f (l.filter fun x=>!decide (f x=k)))=ks.map (clB f l):=List.map_congr_left fun k' hk'=>by
    unfold clB;rw[List.filter_filter];refine wG fun x _=>?_;by_cases e:f x=k'
    .have:k'≠k:=fun hh=>hn.1 (hh ▸ hk');simp[e,this]
    .simp [e]
   rw[e]
 exact key _ l Al6 fun x hx=>Afo.2 ⟨x,hx,rfl⟩
theorem Bdc{m n:Nat}{l:List tractable_entry}(hl:∀e∈l,RwOK m e.row)(hn:n<2^m)(hm:m<=16):GroupsA eqE n l (blk (kE n) l):=by
 have hn32:n<2^32:=yH hn (zW (by decide) (by omega));refine⟨blk_perm' l,fun g hg r hr t ht=>?_,fun i j g h hi hj hij r hr t ht ha=>?_,fun g hg=>?_⟩
 .obtain ⟨k,hk,rfl⟩:=zL.1 hg;obtain⟨r1,r2⟩:=Alq.1 hr;obtain⟨t1,t2⟩:=Alq.1 ht;exact(Atg hn32 (hl r r1) (hl t t1)).1 (r2.trans t2.symm)
 .unfold blk at hi hj;rw[zS]at hi hj;obtain⟨k1,e1,rfl⟩:=xS.1 hi;obtain⟨k2,e2,rfl⟩:=xS.1 hj;obtain⟨r1,r2⟩:=Alq.1 hr;obtain⟨t1,t2⟩:=Alq.1 ht;have:=(Atg hn32 (hl r r1) (hl t t1)).2 ha;have e:k1=k2:=r2.symm.trans (this.trans t2);subst e;exact hij (Axs e1 e2)
 .obtain ⟨k,hk,rfl⟩:=zL.1 hg;exact Bk7 hk
structure GainOK(g:List (List Int))(n:Nat):Prop where
 rows:g.length<=60
 cols:∀r∈g,r.length=n
 le:n<=60
 bnd:∀r∈g,∀x∈r,-1000000000<=x/\x<=1000000000
theorem Ani{α:Type}{p:α->Bool}{l:List α}(h:∀a∈l,p a=false):l.any p=false:=List.any_eq_false.2 fun a ha=>by rw[h a ha];simp
theorem q41_.spec{r:List Int}:q41_.C r (decide (60<(r.length:Int))):=by
 obtain⟨x,h1,h2⟩:=q41_.enter r (fun x=>x=decide (60<(r.length:Int))) rfl;rw[<-h1];exact h2
theorem q42_.spec{r:List Int}{k:Int}:q42_.C r k ((r.length:Int)!=k):=by
 obtain⟨x,h1,h2⟩:=q42_.enter r k (fun x=>x=((r.length:Int)!=k)) rfl;rw[<-h1];exact h2
def farB(x:Int):Bool:=decide (x < -1000000000) || decide (1000000000<x)
theorem q40_.spec{x:Int}:q40_.C x (farB x):=by
 obtain⟨r,h1,h2⟩:=q40_.enter x (fun r=>r=farB x) (by
  unfold farB;by_cases h:x < -1000000000
  .rw [if_pos h];simp[h]
  .rw [if_neg h];simp[h])
 rw[<-h1];exact h2
theorem q9_.spec{l:List (List Int)}(hn:l.length<Big):q9_.C l (ixI (fun r=>decide (60<(r.length:Int))) l):=by
 obtain⟨r,h1,h2⟩:=q9_.enter l (fun r=>r=ixI (fun r=>decide (60<(r.length:Int))) l) (by
  refine Acs (l:=l) (p:=fun r=>decide (60<(r.length:Int))) (L:=fun i=>q9_.L1 l i _) (φ:=fun r=>r=ixI (fun r=>decide (60<(r.length:Int))) l) ?_ ?_ rfl
  .intro h;apply q9_.L1_step;rw[if_neg (by omega)];exact h
  .intro k a ha hk h;apply q9_.L1_step;rw[if_pos (by omega)];refine⟨a,Aa8 ha,_,q41_.spec,?_⟩;rw[Aa4 (by unfold Big at hn;omega)]
   exact h)
 rw[<-h1];exact h2
theorem q10_.spec{l:List (List Int)}{q:Int}(hn:l.length<Big):q10_.C l q (ixI (fun r=>(r.length:Int)!=q) l):=by
 obtain⟨r,h1,h2⟩:=q10_.enter l q (fun r=>r=ixI (fun r=>(r.length:Int)!=q) l) (by
  refine Acs (l:=l) (p:=fun r=>(r.length:Int)!=q) (L:=fun i=>q10_.L1 l q i _) (φ:=fun r=>r=ixI (fun r=>(r.length:Int)!=q) l) ?_ ?_ rfl
  .intro h;apply q10_.L1_step;rw[if_neg (by omega)];exact h
  .intro k a ha hk h;apply q10_.L1_step;rw[if_pos (by omega)];refine⟨a,Aa8 ha,_,q42_.spec,?_⟩;rw[Aa4 (by unfold Big at hn;omega)]
   exact h)
 rw[<-h1];exact h2
theorem q12_.spec{l:List Int}(hn:l.length<Big):q12_.C l (ixI farB l):=by
 obtain⟨r,h1,h2⟩:=q12_.enter l (fun r=>r=ixI farB l) (by
  refine Acs (l:=l) (p:=farB) (L:=fun i=>q12_.L1 l i _) (φ:=fun r=>r=ixI farB l) ?_ ?_ rfl
  .intro h;apply q12_.L1_step;rw[if_neg (by omega)];exact h
  .intro k a ha hk h;apply q12_.L1_step;rw[if_pos (by omega)];refine⟨a,Aa8 ha,_,q40_.spec,?_⟩;rw[Aa4 (by unfold Big at hn;omega)]
   exact h)
 rw[<-h1];exact h2
theorem q4_.spec{l:List (List Int)}(hn:l.length<Big):q4_.C l (l.any fun r=>decide (60<(r.length:Int))):=by
 obtain⟨r,h1,h2⟩:=q4_.enter l (fun r=>r=l.any fun r=>decide (60<(r.length:Int))) ⟨_,q9_.spec hn,Aek⟩;rw[<-h1];exact h2
theorem q5_.spec{l:List (List Int)}{q:Int}(hn:l.length<Big):q5_.C l q (l.any fun r=>(r.length:Int)!=q):=by
 obtain⟨r,h1,h2⟩:=q5_.enter l q (fun r=>r=l.any fun r=>(r.length:Int)!=q) ⟨_,q10_.spec hn,Aek⟩;rw[<-h1];exact h2
theorem q6_.spec{l:List Int}(hn:l.length<Big):q6_.C l (l.any farB):=by
 obtain⟨r,h1,h2⟩:=q6_.enter l (fun r=>r=l.any farB) ⟨_,q12_.spec hn,Aek⟩;rw[<-h1];exact h2
variable{g:List (List Int)}{n:Nat}
theorem q66_.loop(h:GainOK g n){φ:Int->Prop}(h0:φ 0):∀(r:List (List Int))(k:Nat),g.drop k=r->q66_.L1 g k φ
 |[],k,hr=>by
  have:=xW.1 hr;apply q66_.L1_step;rw[if_neg (by omega)];exact h0
 |a::r,k,hr=>by
  have hk:k<g.length:=by
   have:=congrArg wI hr;simp at this;omega
  have ha:a∈g:=xX (i:=k) (by rw[hr];simp);have hl:=h.cols a ha;have:=h.le;have:=h.rows;apply q66_.L1_step;rw[if_pos (by omega)];refine⟨a,Ab6 hr,_,q6_.spec (by unfold Big;omega),?_⟩;rw[Ani fun x hx=>by
   have:=h.bnd a ha x hx
   unfold farB;simp;omega,if_neg (by simp),Aa4 (by omega)]
  exact q66_.loop h h0 r (k+1) (by rw[<-wR,hr];rfl)
theorem q66_.spec(h:GainOK g n):q66_.C g true 0:=by
 have h1:=h.rows;have h2:=h.le;obtain⟨r,e1,e2⟩:=q66_.enter g true (fun r=>r=0) (by
  rw[if_neg (by omega)];refine⟨_,q4_.spec (by unfold Big;omega),?_⟩;rw[Ani fun r hr=>by have:=h.cols r hr;simp;omega,if_neg (by simp)]
  split
  .rfl
  .rename_i hg;cases g with
   |nil=>exact absurd rfl hg
   |cons a g=>
    have ha:=h.cols a (by simp);refine⟨a,Ab6 (k:=0) rfl,_,q5_.spec (by unfold Big;omega),?_⟩;rw[Ani fun r hr=>by have:=h.cols r hr;simp;omega,if_neg (by simp),if_pos rfl];apply q66_.L2_step
    exact q66_.loop (φ:=fun r=>r=0) h rfl _ 0 rfl)
 rw[<-e1];exact e2
theorem q67_.spec(h:GainOK g n)(hg:g≠[]):q67_.C g (n:Int):=by
 obtain⟨r,e1,e2⟩:=q67_.enter g (fun r=>r=(n:Int)) (by
  cases g with
  |nil=>exact absurd rfl hg
  |cons a g=>
   rw[if_neg (by simp only[zB];omega)]
   exact⟨a,Ab6 (k:=0) rfl,by rw[h.cols a (by simp)]⟩)
 rw[<-e1];exact e2
def oppR(m:Nat)(r:List Int):List Int:=r.map (fun x=>0-x)++zR m 0
theorem Aln{α:Type}{p q:List α}{a:α}:lget (p++a::q) ((p.length:Nat):Int)=some a:=by
 rw[Aci];simp
theorem Bg0{α:Type}{p q:List α}{a b:α}:lset (p++a::q) ((p.length:Nat):Int) b=p++b::q:=by
 unfold lset;rw[zC];simp
namespace q33_
variable{g:List (List Int)}{n m:Nat}
theorem inner{a:List Int}(ha:a.length<=60)(hb:∀x∈a,-1000000000<=x/\x<=1000000000){out:List (List Int)}{i:Int}{φ:List (List Int)->Prop}(hout:(out.length+1)*24<=140737488355328)(h0:L1 g m (out++[oppR m a]) (IntKind.wrap .i64 (i+1)) φ):
  ∀(r p:List Int)(k:Nat),p++r=a->p.length=k->L2 g m out a (p.map (fun x=>0-x)++zR (r.length+m) 0) i k φ
 |[],p,k,hpr,hk=>by
  apply L2_step;rw[yI]at hpr;subst hpr;rw[if_neg (by omega)];refine⟨hout,?_⟩;have:p.map (fun x=>0-x)++zR (([]:List Int).length+m) 0=oppR m p:=by
   unfold oppR;simp
  rw[this];exact h0
 |x::r,p,k,hpr,hk=>by
  apply L2_step;have hlen:=congrArg wI hpr;simp only[zD,zB]at hlen;have hx:=hb x (by rw[<-hpr];simp);have hkk:k=(p.map fun x=>0-x).length:=by rw[zF];exact hk.symm
  have e1:(x::r).length+m=(r.length+m)+1:=by simp only[zB];omega
  rw[if_pos (by omega)];refine⟨x,by rw[<-hpr,<-hk];exact Aln,0,by rw[e1,wA,hkk];exact Aln,?_⟩;have e2:lset (p.map (fun x=>0-x)++zR ((x::r).length+m) 0) (k:Int) (IntKind.wrap .i64 (0-x))=(p++[x]).map (fun x=>0-x)++zR (r.length+m) 0:=by
   rw[e1,wA,hkk,Bg0,Abb (by omega) (by omega)];simp
  rw[e2,Aa4 (by omega)];exact inner ha hb hout h0 r (p++[x]) (k+1) (by simpa using hpr) (by simp[hk])
theorem loop(h:GainOK g n)(hm:m<=60){φ:List (List Int)->Prop}:∀(r:List (List Int))(k:Nat)(out:List (List Int)),g.drop k=r->out.length=k->φ (out++r.map (oppR m))->L1 g m out k φ
 |[],k,out,hr,ho,hφ=>by
  have:=xW.1 hr;apply L1_step;rw[if_neg (by omega)];simpa using hφ
 |a::r,k,out,hr,ho,hφ=>by
  have hk:k<g.length:=by
   have:=congrArg wI hr;simp at this;omega
  have ha:a∈g:=xX (i:=k) (by rw[hr];simp);have hl:=h.cols a ha;have:=h.le;have:=h.rows;have ew:IntKind.wrap .i64 ((a.length:Int)+m)=((a.length+m:Nat):Int):=by
   rw[Abb (by omega) (by omega)];omega
  apply L1_step;rw[if_pos (by omega)];refine⟨a,Ab6 hr,?_⟩;rw[ew,zC];refine⟨by constructor<;>omega,?_⟩;refine inner (i:=(k:Int)) (out:=out) (by omega) (h.bnd a ha) (by omega) ?_ a [] 0 rfl rfl;rw[Aa4 (by omega)];exact loop h hm r (k+1) _ (by rw[<-wR,hr];rfl) (by simp[ho]) (by simpa using hφ)
theorem spec(h:GainOK g n)(hm:m<=60):C g (m:Int) (g.map (oppR m)):=by
 obtain⟨r,e1,e2⟩:=enter g (m:Int) (fun r=>r=g.map (oppR m)) (loop (φ:=fun r=>r=g.map (oppR m)) h hm g 0 [] rfl rfl (by simp));rw[<-e1];exact e2
end q33_
namespace q24_
variable{cost:List (List Int)}{u v ro:List Int}{φ:List Int×assignment_solver->Prop}
theorem loop(hn:ro.length<1000000)(hin:∀(j:Nat) a,ro[j]?=some a->a<(cost.length:Int))(hinj:∀(j k:Nat) a,ro[j]?=some a->ro[k]?=some a->0<=a->j=k)
  (hφ:∀out:List Int,out.length=cost.length->(∀r j:Nat,ro[j]?=some (r:Int)->out[r]?=some (j:Int))->φ (out,⟨cost,u,v,ro⟩)):
  ∀(n k:Nat)(out:List Int),k+n=ro.length->out.length=cost.length->(∀r j:Nat,j<k->ro[j]?=some (r:Int)->out[r]?=some (j:Int))->L1 out ro k cost u v φ
 |0,k,out,hk,hl,ho=>by
  apply L1_step;rw[if_neg (by omega)];exact hφ out hl fun r j hj=>ho r j (by have:=(zI.1 hj).1;omega) hj
 |n+1,k,out,hk,hl,ho=>by
  apply L1_step;rw[if_pos (by omega)];have hg:ro[k]?=some ro[k]:=zA (by omega);refine⟨ro[k],Aa8 hg,?_⟩;by_cases h0:0<=ro[k]
  .rw [if_pos h0];have hlt:=hin k _ hg;obtain⟨r,hr⟩:∃r:Nat,ro[k]=(r:Int):=⟨ro[k].toNat,by omega⟩
   have hg2:out[r]?=some out[r]:=zA (by omega);refine⟨out[r],by rw[hr];exact Aa8 hg2,?_⟩;apply L2_step;rw[Aa4 (by omega)];have e:lset out ro[k] (k:Int)=out.set r (k:Int):=by
    unfold lset;rw[hr,zC]
   rw[e];refine loop hn hin hinj hφ n (k+1) _ (by omega) (by rw[zK];exact hl) fun r' j hj hjr=>?_;by_cases hjk:j=k
   .subst hjk;have:r'=r:=by
     rw[hg,hr]at hjr;simp only[zJ]at hjr;omega
    subst this;rw[List.getElem?_set_self (by omega)]
   .have hne:r≠r':=fun e=>hjk (hinj j k (r':Int) hjr (by rw[hg,hr,e]) (by omega));rw[List.getElem?_set_ne hne];exact ho r' j (by omega) hjr
  .rw [if_neg h0];apply L2_step;rw[Aa4 (by omega)];refine loop hn hin hinj hφ n (k+1) _ (by omega) hl fun r' j hj hjr=>?_;by_cases hjk:j=k
   .subst hjk;rw[hg]at hjr;simp only[zJ]at hjr;omega
   .exact ho r' j (by omega) hjr
theorem spec(hn:ro.length<1000000)(hc:cost.length<1000000)(hin:∀(j:Nat) a,ro[j]?=some a->a<(cost.length:Int))(hinj:∀(j k:Nat) a,ro[j]?=some a->ro[k]?=some a->0<=a->j=k):
  ∃out:List Int,C cost u v ro (out,⟨cost,u,v,ro⟩)/\out.length=cost.length/\∀r j:Nat,ro[j]?=some (r:Int)->out[r]?=some (j:Int):=by
 obtain⟨r,⟨e1,e2,e3⟩,e4⟩:=enter cost u v ro (fun x=>x.2=⟨cost,u,v,ro⟩/\x.1.length=cost.length/\∀r j:Nat,ro[j]?=some (r:Int)->x.1[r]?=some (j:Int))
  ⟨by constructor<;>omega,loop hn hin hinj (fun out h1 h2=>⟨rfl,h1,h2⟩) ro.length 0 _ (by omega) (by simp) (by omega)⟩
 obtain⟨out,s⟩:=r;simp only at e1;subst e1;exact⟨out,e4,e2,e3⟩
end q24_
def gI(l:List Int)(j:Nat):Int:=(l[j]?).getD 0
def gB(l:List Bool)(j:Nat):Bool:=(l[j]?).getD false
def gM(m:List (List Int))(r j:Nat):Int:=gI ((m[r]?).getD []) j
theorem Abq{l:List Int}{j:Nat}(h:j<l.length):lget l (j:Int)=some (gI l j):=by
 unfold gI;rw[Aci,zA h];rfl
theorem Atw{l:List Bool}{j:Nat}(h:j<l.length):lget l (j:Int)=some (gB l j):=by
 unfold gB;rw[Aci,zA h];rfl
theorem Ae3{α:Type}{l:List α}{j:Nat}{a:α}:lset l (j:Int) a=l.set j a:=by unfold lset;rw[zC]
theorem Acx{l:List Int}{k j:Nat}{a:Int}(h:k<l.length):gI (l.set k a) j=if j=k then a else gI l j:=by
 unfold gI;rw[wH];by_cases e:j=k
 .subst e;simp[h]
 .rw [if_neg (fun x=>e x.symm),if_neg e]
theorem Bka{l:List Bool}{k j:Nat}{a:Bool}(h:k<l.length):gB (l.set k a) j=if j=k then a else gB l j:=by
 unfold gB;rw[wH];by_cases e:j=k
 .subst e;simp[h]
 .rw [if_neg (fun x=>e x.symm),if_neg e]
theorem Bda{l:List Int}{j:Nat}(h:l.length<=j):gI l j=0:=by
 unfold gI;rw[zU h];rfl
section
variable{c:Nat->Nat->Int}{R C i:Nat}{E B:Int}{u0 v0 row:Nat->Int}
theorem AsgA.congr{row2:Nat->Int}(h:AsgA c C i B u0 v0 row)(e:∀j,j<C->row2 j=row j):AsgA c C i B u0 v0 row2 where
 rng:=fun j hj=>by rw[e j hj];exact h.rng j hj
 inj:=fun j k hj hk=>by rw[e j hj,e k hk];exact h.inj j k hj hk
 sur:=fun r hr=>by obtain⟨j,hj,hr⟩:=h.sur r hr;exact⟨j,hj,by rw[e j hj];exact hr⟩
 feas:=h.feas
 tight:=fun r j hj=>by rw[e j hj];exact h.tight r j hj
 neg:=h.neg
 free:=fun j hj=>by rw[e j hj];exact h.free j hj
 zero:=h.zero
 bu:=h.bu
 bv:=h.bv
theorem SrcA.bnd(hM:MtxA c R C E)(hA:AsgA c C i B u0 v0 row)(hi:i<R)(hE:0<=E)(hB:0<=B){D:List Nat}{a:Nat}{u v best:Nat->Int}{frm:Nat->Nat}{t1:Int}(h:SrcA c C i E u0 v0 row D a u v best frm t1):
  (∀r,r<=i->-(B+E+E)<=u r/\u r<=B+E+E)/\∀j,j<C->-(B+E+E)<=v j/\v j<=0:=by
 have gap:0<=u i-t1/\u i-t1<=E+E/\-E<=u i/\u i<=E:=by
  by_cases hD:D=[]
  .have:=h.t0 hD;have:=h.zero i (.inr ⟨hD,rfl⟩);omega
  .have:=h.bound hM hA hi hD;omega
 constructor
 .intro r hr;by_cases e:r=i
  .subst e;omega
  .have:=h.bu r (by omega);have:=hA.bu r (by omega);omega
 .intro j hj;have:=h.bv j hj;have:=hA.bv j hj;have:=h.neg j hj;omega
def newA(d b:Int):Int:=if d<b then d else b
theorem SrcA.newb(hM:MtxA c R C E)(hA:AsgA c C i B u0 v0 row)(hC:row C=(i:Int))(hi:i<R)(hE:0<=E)(hB:0<=B)(hK:E+(B+E+E)+(B+E+E)<farZ){D:List Nat}{a:Nat}{u v best:Nat->Int}{frm:Nat->Nat}{t1:Int}(h:SrcA c C i E u0 v0 row D a u v best frm t1)
  {r0:Nat} (hr0:row a=(r0:Int)) {j:Nat} (hj:j<C) (hjD:j ∉ a::D):r0<=i/\-(E+(B+E+E)+(B+E+E))<=newA (c r0 j-u r0-v j) (best j)/\newA (c r0 j-u r0-v j) (best j)<=E+(B+E+E)+(B+E+E):=by
 obtain⟨bu,bv⟩:=h.bnd hM hA hi hE hB;have haC:a<=C:=by
  by_cases hD:D=[]
  .rw [h.first hD];exact zV _
  .exact Nat.le_of_lt (h.later hD).2
 obtain⟨r1,e1,hr1,_⟩:=Aec hA hC haC (by omega);have hri:r0<=i:=by omega
 have h1:=hM.bnd r0 j (by omega) hj;have h2:=bu r0 hri;have h3:=bv j hj;refine⟨hri,?_⟩;unfold newA;by_cases hD:D=[]
 .have:=h.far hD j hj;rw[this]
  split<;>omega
 .obtain ⟨g1,g2⟩:=h.att hD j hj fun hh=>hjD (yO _ hh);obtain⟨r2,e2,hr2,_⟩:=Aec hA hC (h.le _ g1) (h.rowD _ g1);have g2:=g2 r2 e2;have h4:=hM.bnd r2 j (by omega) hj;have h5:=bu r2 hr2
  split<;>omega
end
namespace q27_
structure Ctx(cost:List (List Int))(C R i:Nat)(E B:Int)(u0 v0:Nat->Int)(ro:List Int):Prop where
 hM:MtxA (gM cost) R C E
 hA:AsgA (gM cost) C i B u0 v0 (gI ro)
 hC:gI ro C=(i:Int)
 hi:i<R
 hE:0<=E
 hB:0<=B
 hK:E+(B+E+E)+(B+E+E)<1000000000000000
 lr:ro.length=C+1
 lc:cost.length=R
 lcr:∀a∈cost,a.length=C
 hn:C<1000
structure St(cost:List (List Int))(C R i:Nat)(E:Int)(u0 v0:Nat->Int)(ro:List Int)(D:List Nat)(a:Nat)(u v b f:List Int)(d:List Bool):Prop where
 lu:u.length=R
 lv:v.length=C+1
 lb:b.length=C
 lf:f.length=C
 ld:d.length=C+1
 fr:∀j,j<C->0<=gI f j/\gI f j<=C
 dn:∀j,j<=C->gB d j=decide (j∈D)
 src:∃t1,SrcA (gM cost) C i E u0 v0 (gI ro) D a (gI u) (gI v) (gI b) (fun j=>(gI f j).toNat) t1
variable{cost:List (List Int)}{C R i:Nat}{E B:Int}{u0 v0:Nat->Int}{ro:List Int}{D:List Nat}{a:Nat}{u v b f:List Int}{d:List Bool}{φ:assignment_solver->Prop}
theorem St.aC(S:St cost C R i E u0 v0 ro D a u v b f d):a<=C:=by
 obtain⟨t1,h⟩:=S.src;by_cases hD:D=[]
 .rw [h.first hD];exact zV _
 .exact Nat.le_of_lt (h.later hD).2
theorem wrapI{x:Int}(h : -1000000000000000000<=x)(h2:x<=1000000000000000000):IntKind.wrap .i64 x=x:=Abb (by omega) (by omega)
theorem scan(H:Ctx cost C R i E B u0 v0 ro)(S:St cost C R i E u0 v0 ro D a u v b f d){r0:Nat}(hr0:gI ro a=(r0:Int)){d1:List Bool}(ld:d1.length=C+1)(dn:∀j,j<=C->gB d1 j=decide (j∈a::D))
  (K:∀(b1 f1:List Int)(nx:Nat)(least:Int),b1.length=C->f1.length=C->(∀j,j<C->gI b1 j=if j ∉ a::D then newA (gM cost r0 j-gI u r0-gI v j) (gI b j)else gI b j) ->
   (∀j,j<C->gI f1 j=if j ∉ a::D/\gM cost r0 j-gI u r0-gI v j<gI b j then(a:Int)else gI f j)->nx<C->nx ∉ a::D->least=gI b1 nx->(∀j,j<C->j ∉ a::D->least<=gI b1 j)->L7 C b1 f1 d1 nx least 0 cost u v ro φ):
  ∀(n k:Nat)(b1 f1:List Int)(nx least:Int),k+n=C->b1.length=C->f1.length=C ->
   (∀j,j<C->gI b1 j=if j<k/\j ∉ a::D then newA (gM cost r0 j-gI u r0-gI v j) (gI b j)else gI b j) ->
   (∀j,j<C->gI f1 j=if(j<k/\j ∉ a::D)/\gM cost r0 j-gI u r0-gI v j<gI b j then(a:Int)else gI f j) ->
   ((nx = -1/\least=farZ/\∀j,j<k->j∈a::D)∨∃m:Nat,nx=(m:Int)/\m<k/\m ∉ a::D/\least=newA (gM cost r0 m-gI u r0-gI v m) (gI b m)/\∀j,j<k->j ∉ a::D->least<=newA (gM cost r0 j-gI u r0-gI v j) (gI b j)) ->
   L3 C b1 f1 d1 a r0 nx least k cost u v ro φ:=by
 obtain⟨t1,hs⟩:=S.src;obtain⟨bu,bv⟩:=hs.bnd H.hM H.hA H.hi H.hE H.hB;have hKf:E+(B+E+E)+(B+E+E)<farZ:=by have:=H.hK;unfold farZ;omega
 have newb:∀{j:Nat},j<C->j ∉ a::D->_:=fun {j} hj hjD=>hs.newb H.hM H.hA H.hC H.hi H.hE H.hB hKf hr0 hj hjD;obtain⟨r1,e1,hr1,_⟩:=Aec H.hA H.hC S.aC (by omega);have hri:r0<=i:=by omega
 have hn:=H.hn;have hK:=H.hK;have hi:=H.hi;have hE:=H.hE;have hB:=H.hB;intro n
 induction n with
 |zero=>
  intro k b1 f1 nx least hk lb lf hb hf hnx;have hkC:k=C:=by omega
  subst hkC;apply L3_step;rw[if_neg (by omega)];rcases hnx with⟨_,_,hall⟩|⟨m,rfl,hm,hmD,hl,hmin⟩
  .exfalso;obtain⟨j,hj,hjr⟩:=H.hA.hole (by have:=H.hM.le;omega);have:=hall j hj;rcases zH.1 this with rfl|h
   .omega
   .have:=hs.rowD j h;omega
  .refine K b1 f1 m least lb lf (fun j hj=>?_) (fun j hj=>?_) hm hmD ?_ fun j hj hjD=>?_
   .rw [hb j hj];by_cases hjD:j∈a::D
    .rw [if_neg (fun h=>h.2 hjD),if_neg (fun h=>h hjD)]
    .rw [if_pos ⟨hj,hjD⟩,if_pos hjD]
   .rw [hf j hj];by_cases hjD:j∈a::D
    .rw [if_neg (fun h=>h.1.2 hjD),if_neg (fun h=>h.1 hjD)]
    .by_cases hd:gM cost r0 j-gI u r0-gI v j<gI b j
     .rw [if_pos ⟨⟨hj,hjD⟩,hd⟩,if_pos ⟨hjD,hd⟩]
     .rw [if_neg (fun h=>hd h.2),if_neg (fun h=>hd h.2)]
   .rw [hb m hm,if_pos ⟨hm,hmD⟩];exact hl
   .rw [hb j hj,if_pos ⟨hj,hjD⟩];exact hmin j hj hjD
 |succ n ih=>
  intro k b1 f1 nx least hk lb lf hb hf hnx;have hkC:k<C:=by omega
  apply L3_step;rw[if_pos (by omega)];refine⟨_,Atw (by omega),?_⟩;rw[dn k (by omega)];by_cases hkD:k∈a::D
  .rw [if_pos (decide_eq_true hkD)];apply L5_step;rw[Aa4 (by omega)];have old:∀j,(j<k+1/\j ∉ a::D)↔(j<k/\j ∉ a::D):=fun j=>by
    constructor
    .rintro ⟨h1,h2⟩;have:j≠k:=fun e=>h2 (e ▸ hkD);exact⟨by omega,h2⟩
    .rintro ⟨h1,h2⟩;exact⟨by omega,h2⟩
   refine ih (k+1) b1 f1 nx least (by omega) lb lf (fun j hj=>?_) (fun j hj=>?_) ?_
   .rw [hb j hj];simp only[old]
   .rw [hf j hj];simp only[old]
   .rcases hnx with⟨h1,h2,h3⟩|⟨m,h1,h2,h3,h4,h5⟩
    .refine .inl ⟨h1,h2,fun j hj=>?_⟩;by_cases e:j=k
     .rw [e];exact hkD
     .exact h3 j (by omega)
    .exact .inr ⟨m,h1,by omega,h3,h4,fun j hj hjD=>h5 j ((old j).1 ⟨hj,hjD⟩).1 hjD⟩
  .rw [if_neg (by simpa using hkD)];have hrc:r0<cost.length:=by rw[H.lc];omega
   have hrow:=zA hrc;have hrl:=H.lcr _ (zT hrc);have hgm:∀j,gM cost r0 j=gI cost[r0] j:=fun j=>by unfold gM;rw[hrow];rfl
   refine⟨cost[r0],Aa8 hrow,_,Abq (by omega),_,Abq (by rw[S.lu];omega),_,Abq (by rw[S.lv];omega),_,Abq (by omega),?_⟩;have hbk:gI b1 k=gI b k:=by rw[hb k hkC,if_neg (fun h=>absurd h.1 (yC k))]
   rw[hbk,<-hgm];obtain⟨_,nb1,nb2⟩:=newb hkC hkD;have c1:=H.hM.bnd r0 k (by omega) hkC;have c2:=bu r0 hri;have c3:=bv k hkC;have ew:IntKind.wrap .i64 (IntKind.wrap .i64 (gM cost r0 k-gI u r0)-gI v k)=gM cost r0 k-gI u r0-gI v k:=by
    rw[wrapI (x:=gM cost r0 k-gI u r0) (by omega) (by omega),wrapI (by omega) (by omega)]
   rw[ew];generalize hd:gM cost r0 k-gI u r0-gI v k=dd at *;have fin:∀b2 f2:List Int,b2.length=C->f2.length=C->(∀j,j<C->gI b2 j=if j=k then newA dd (gI b k)else gI b1 j)->(∀j,j<C->gI f2 j=if j=k/\dd<gI b k then(a:Int)else gI f1 j) ->
     L6 C b2 f2 d1 a r0 nx least k cost u v ro φ:=fun b2 f2 lb2 lf2 hb2 hf2=>by
    apply L6_step;refine⟨_,Abq (by omega),?_⟩;rw[hb2 k hkC,if_pos rfl];have go:∀nx2 least2,((nx2 = -1/\least2=farZ/\∀j,j<k+1->j∈a::D)∨∃m:Nat,nx2=(m:Int)/\m<k+1/\m ∉ a::D/\least2=newA (gM cost r0 m-gI u r0-gI v m) (gI b m)/\∀j,j<k+1->j ∉ a::D->least2<=newA (gM cost r0 j-gI u r0-gI v j) (gI b j)) ->
      L5 C b2 f2 d1 a r0 nx2 least2 k cost u v ro φ:=fun nx2 least2 hn2=>by
     apply L5_step;rw[Aa4 (by omega)];refine ih (k+1) b2 f2 nx2 least2 (by omega) lb2 lf2 (fun j hj=>?_) (fun j hj=>?_) hn2
     .rw [hb2 j hj];by_cases e:j=k
      .subst e;rw[if_pos rfl,if_pos ⟨by omega,hkD⟩,hd]
      .rw [if_neg e,hb j hj];by_cases hjk:j<k/\j ∉ a::D
       .rw [if_pos hjk,if_pos ⟨by omega,hjk.2⟩]
       .rw [if_neg hjk,if_neg fun h=>hjk ⟨by omega,h.2⟩]
     .rw [hf2 j hj];by_cases e:j=k
      .subst e;rw[hd];by_cases hlt:dd<gI b j
       .rw [if_pos ⟨rfl,hlt⟩,if_pos ⟨⟨by omega,hkD⟩,hlt⟩]
       .rw [if_neg (fun h=>hlt h.2),if_neg (fun h=>hlt h.2),hf j hj,if_neg (fun h=>absurd h.1.1 (yC j))]
      .rw [if_neg (fun h=>e h.1),hf j hj];by_cases hjk:(j<k/\j ∉ a::D)/\gM cost r0 j-gI u r0-gI v j<gI b j
       .rw [if_pos hjk,if_pos ⟨⟨by omega,hjk.1.2⟩,hjk.2⟩]
       .rw [if_neg hjk,if_neg fun h=>hjk ⟨⟨by omega,h.1.2⟩,h.2⟩]
    by_cases hlt:newA dd (gI b k)<least
    .rw [if_pos hlt];refine go _ _ (.inr ⟨k,rfl,by omega,hkD,by rw[hd],fun j hj hjD=>?_⟩);by_cases e:j=k
     .subst e;rw[hd];exact Int.le_refl _
     .rcases hnx with⟨_,_,h3⟩|⟨m,_,_,_,_,h5⟩
      .exact absurd (h3 j (by omega)) hjD
      .have:=h5 j (by omega) hjD;omega
    .rw [if_neg hlt];rcases hnx with⟨_,h2,_⟩|⟨m,h1,h2,h3,h4,h5⟩
     .exfalso;rw[h2]at hlt;omega
     .refine go _ _ (.inr ⟨m,h1,by omega,h3,h4,fun j hj hjD=>?_⟩);by_cases e:j=k
      .subst e;rw[hd];omega
      .exact h5 j (by omega) hjD
   by_cases hlt:dd<gI b k
   .rw [if_pos hlt];refine⟨_,Abq (by omega),?_⟩;rw[Ae3,Ae3];refine fin _ _ (by rw[zK];exact lb) (by rw[zK];exact lf) (fun j hj=>?_) fun j hj=>?_
    .rw [Acx (by omega)];unfold newA;rw[if_pos hlt]
    .rw [Acx (by omega)];by_cases e:j=k
     .rw [if_pos e,if_pos ⟨e,hlt⟩]
     .rw [if_neg e,if_neg fun h=>e h.1]
   .rw [if_neg hlt];refine fin _ _ lb lf (fun j hj=>?_) fun j hj=>?_
    .by_cases e:j=k
     .subst e;rw[if_pos rfl,hb j hj,if_neg (fun h=>absurd h.1 (yC j))];unfold newA;rw[if_neg hlt]
     .rw [if_neg e]
    .rw [if_neg fun h=>hlt h.2]
theorem shift(H:Ctx cost C R i E B u0 v0 ro)(S:St cost C R i E u0 v0 ro D a u v b f d)(h0:0<=gI ro a){d1:List Bool}(ld:d1.length=C+1)(dn:∀j,j<=C->gB d1 j=decide (j∈a::D)){b1 f1:List Int}{nx:Nat}{least:Int}(lb:b1.length=C)
  (hb1:∀j,j<C->j ∉ a::D->-1000000000000000<=gI b1 j/\gI b1 j<=1000000000000000) (hl : -1000000000000000<=least/\least<=1000000000000000)
  (K:∀b2 u2 v2:List Int,b2.length=C->u2.length=R->v2.length=C+1->(∀r:Nat,(∀j∈a::D,gI ro j=(r:Int)->gI u2 r=gI u r+least)/\((∀j∈a::D,gI ro j≠(r:Int))->gI u2 r=gI u r)) ->
   (∀j,j<C->(j∈a::D->gI v2 j=gI v j-least)/\(j ∉ a::D->gI v2 j=gI v j))->(∀j,j<C->j ∉ a::D->gI b2 j=gI b1 j-least)->L2 C b2 f1 d1 nx cost u2 v2 ro φ):
  ∀(n k:Nat)(b2 u2 v2:List Int),k+n=C+1->b2.length=C->u2.length=R->v2.length=C+1 ->
   (∀r:Nat,(∀j∈a::D,j<k->gI ro j=(r:Int)->gI u2 r=gI u r+least)/\((∀j∈a::D,j<k->gI ro j≠(r:Int))->gI u2 r=gI u r)) ->
   (∀j,j<C->(j<k/\j∈a::D->gI v2 j=gI v j-least)/\(¬(j<k/\j∈a::D)->gI v2 j=gI v j)) ->
   (∀j,j<C->(j<k/\j ∉ a::D->gI b2 j=gI b1 j-least)/\(¬(j<k/\j ∉ a::D)->gI b2 j=gI b1 j))->L7 C b2 f1 d1 nx least k cost u2 v2 ro φ:=by
 obtain⟨t1,hs⟩:=S.src;obtain⟨bu,bv⟩:=hs.bnd H.hM H.hA H.hi H.hE H.hB;have hn:=H.hn;have hK:=H.hK;have hi:=H.hi;have hE:=H.hE;have hB:=H.hB;have aC:=S.aC;have leD:∀j∈a::D,j<=C/\0<=gI ro j:=fun j hj=>by
  rcases zH.1 hj with rfl|hj
  .exact ⟨aC,h0⟩
  .exact ⟨hs.le j hj,hs.rowD j hj⟩
 intro n
 induction n with
 |zero=>
  intro k b2 u2 v2 hk lb2 lu lv hu hv hb;have ew:IntKind.wrap .i64 ((C:Int)+1)=((C+1:Nat):Int):=Aa4 (by omega);apply L7_step;rw[ew,if_neg (by omega)];refine K b2 u2 v2 lb2 lu lv (fun r=>⟨fun j hj hr=>?_,fun hall=>?_⟩) (fun j hj=>⟨fun hjD=>?_,fun hjD=>?_⟩) fun j hj hjD=>?_
  .have:=leD j hj;exact(hu r).1 j hj (by omega) hr
  .exact (hu r).2 fun j hj _=>hall j hj
  .exact (hv j hj).1 ⟨by omega,hjD⟩
  .exact (hv j hj).2 fun h=>hjD h.2
  .exact (hb j hj).1 ⟨by omega,hjD⟩
 |succ n ih=>
  intro k b2 u2 v2 hk lb2 lu lv hu hv hb;have ew:IntKind.wrap .i64 ((C:Int)+1)=((C+1:Nat):Int):=Aa4 (by omega);apply L7_step;rw[ew,if_pos (by omega)];refine⟨_,Atw (by omega),?_⟩;rw[dn k (by omega)];by_cases hkD:k∈a::D
  .rw [if_pos (decide_eq_true hkD)];obtain⟨r,er,hr,_⟩:=Aec H.hA H.hC (leD k hkD).1 (leD k hkD).2;have hur:=bu r hr;have hold:gI u2 r=gI u r:=(hu r).2 fun j hj hjk e=>by
    have:=Amt H.hA H.hC (leD j hj).1 (leD k hkD).1 e er;omega
   refine⟨_,Abq (by rw[H.lr];omega),?_⟩;rw[er];refine⟨_,Abq (by omega),_,Abq (by omega),?_⟩;rw[hold,Ae3,Ae3,wrapI (x:=gI u r+least) (by omega) (by omega)];apply L8_step;rw[Aa4 (by omega)];refine ih (k+1) _ _ _ (by omega) lb2 (by rw[zK];exact lu) (by rw[zK];exact lv) (fun q=>⟨fun j hj hjk e=>?_,fun hall=>?_⟩) (fun j hj=>⟨fun hjk=>?_,fun hjk=>?_⟩) fun j hj=>⟨fun hjk=>?_,fun hjk=>?_⟩
   .rw [Acx (by omega)];by_cases hjk':j=k
    .subst hjk';have:q=r:=by omega
     rw[if_pos this,this]
    .have:q≠r:=fun e2=>hjk' (Amt H.hA H.hC (leD j hj).1 (leD k hkD).1 e (by rw[e2];exact er));rw[if_neg this];exact(hu q).1 j hj (by omega) e
   .have:q≠r:=fun e2=>hall k hkD (by omega) (by rw[e2];exact er);rw[Acx (by omega),if_neg this];exact(hu q).2 fun j hj hjk=>hall j hj (by omega)
   .rw [Acx (by omega)];by_cases e:j=k
    .subst e;have hv1:=(hv j hj).2 fun h=>absurd h.1 (yC j);have hv2:=bv j hj;rw[if_pos rfl,hv1,wrapI (by omega) (by omega)]
    .rw [if_neg e];exact(hv j hj).1 ⟨by omega,hjk.2⟩
   .have:j≠k:=fun e=>hjk ⟨by omega,e ▸ hkD⟩;rw[Acx (by omega),if_neg this];exact(hv j hj).2 fun h=>hjk ⟨by omega,h.2⟩
   .have:j≠k:=fun e=>hjk.2 (e ▸ hkD);exact(hb j hj).1 ⟨by omega,hjk.2⟩
   .exact (hb j hj).2 fun h=>hjk ⟨by omega,h.2⟩
  .rw [if_neg (by simpa using hkD)];have keep:∀b3:List Int,b3.length=C->(∀j,j<C->(j<k+1/\j ∉ a::D->gI b3 j=gI b1 j-least)/\(¬(j<k+1/\j ∉ a::D)->gI b3 j=gI b1 j))->L8 C b3 f1 d1 nx least k cost u2 v2 ro φ:=fun b3 lb3 hb3=>by
    apply L8_step;rw[Aa4 (by omega)];have off:∀j,j<k+1->j∈a::D->j<k:=fun j h1 h2=>by
     have:j≠k:=fun e=>hkD (e ▸ h2);omega
    refine ih (k+1) _ _ _ (by omega) lb3 lu lv (fun q=>⟨fun j hj hjk e=>?_,fun hall=>?_⟩) (fun j hj=>⟨fun hjk=>?_,fun hjk=>?_⟩) hb3
    .exact (hu q).1 j hj (off j hjk hj) e
    .exact (hu q).2 fun j hj hjk=>hall j hj (by omega)
    .exact (hv j hj).1 ⟨off j hjk.1 hjk.2,hjk.2⟩
    .exact (hv j hj).2 fun h=>hjk ⟨by omega,h.2⟩
   by_cases hkC:k<C
   .rw [if_pos (by omega)];refine⟨_,Abq (by omega),?_⟩;have hb0:=(hb k hkC).2 fun h=>absurd h.1 (yC k);have hb3:=hb1 k hkC hkD;rw[hb0,wrapI (by omega) (by omega),Ae3];refine keep _ (by rw[zK];exact lb2) fun j hj=>⟨fun hjk=>?_,fun hjk=>?_⟩
    .rw [Acx (by omega)];by_cases e:j=k
     .rw [if_pos e,e]
     .rw [if_neg e];exact(hb j hj).1 ⟨by omega,hjk.2⟩
    .have:j≠k:=fun e=>hjk ⟨by omega,e ▸ hkD⟩;rw[Acx (by omega),if_neg this];exact(hb j hj).2 fun h=>hjk ⟨by omega,h.2⟩
   .rw [if_neg (by omega)];refine keep _ lb2 fun j hj=>⟨fun hjk=>(hb j hj).1 ⟨by omega,hjk.2⟩,fun hjk=>(hb j hj).2 fun h=>hjk ⟨by omega,h.2⟩⟩
theorem walk(H:Ctx cost C R i E B u0 v0 ro)(S:St cost C R i E u0 v0 ro D a u v b f d)(hD:D≠[])
  (K:∀rw2:List Int,rw2.length=C+1->gI rw2 C = -1->AsgA (gM cost) C (i+1) (B+(E+E)) (gI u) (gI v) (gI rw2)->φ ⟨cost,u,v,rw2⟩):
  ∀(n p:Nat)(r2:List Int),(a::D).length-(a::D).idxOf p<=n->r2.length=C+1->PathA (gM cost) C i (gI ro) (a::D) (gI u) (gI v) (fun j=>(gI f j).toNat) p (gI r2)->L4 C f p cost u v r2 φ:=by
 obtain⟨t1,hs⟩:=S.src;have hT:=hs.nodup;intro n
 induction n with
 |zero=>
  intro p r2 hn _ hp;have:=hp.left hT;omega
 |succ n ih=>
  intro p r2 hn lr hp;have hpC:=hp.le;apply L4_step;by_cases e:p=C
  .subst e;rw[if_pos rfl];refine⟨_,Abq (by omega),?_⟩;rw[Ae3];refine K _ (by rw[zK];exact lr) (by rw[Acx (by omega),if_pos rfl]) ?_;exact hp.done H.hM H.hA H.hi H.hB hs hD fun j hj=>by rw[Acx (by omega),if_neg (by omega)]
  .rw [if_neg (by omega)];have hpl:p<C:=by omega
   have hf:=S.fr p hpl;have ef:gI f p=(((gI f p).toNat:Nat):Int):=by omega
   refine⟨_,Abq (by rw[S.lf];omega),?_⟩;rw[ef];refine⟨_,Abq (by omega),_,Abq (by omega),?_⟩;rw[Ae3];have leT:∀j∈a::D,j<=C:=fun j hj=>by
    rcases zH.1 hj with rfl|hj
    .exact S.aC
    .exact hs.le j hj
   have h0:∀A j S',a::D=A++j::S'->∀k∈S',0<=gI ro k:=fun A j S' hAS k hk=>by
    refine hs.rowD k ?_;cases A with
    |nil=>simp only[xD,zM]at hAS;rw[hAS.2];exact hk
    |cons x A=>simp only[zN,zM]at hAS;rw[hAS.2];simp[hk]
   have hnext:=PathA.next hT leT h0 (hs.path hD) hp e (rw2:=gI (r2.set p (gI r2 (gI f p).toNat))) (by rw[Acx (by omega),if_pos rfl]) fun j hj hjp=>by rw[Acx (by omega),if_neg hjp]
   have hl1:=hp.left hT;obtain⟨A,S',hAS,_⟩:=hp.rest;have hgr:=Bde hT hAS (hs.path hD A p S' hAS e).1;have hl2:=hnext.left hT;exact ih _ _ (by omega) (by rw[zK];exact lr) hnext
theorem search(H:Ctx cost C R i E B u0 v0 ro)(K:∀u v rw2:List Int,u.length=R->v.length=C+1->rw2.length=C+1->gI rw2 C = -1->AsgA (gM cost) C (i+1) (B+(E+E)) (gI u) (gI v) (gI rw2)->φ ⟨cost,u,v,rw2⟩):
  ∀(n:Nat)(D:List Nat)(a:Nat)(u v b f:List Int)(d:List Bool),C+1-D.length<=n->St cost C R i E u0 v0 ro D a u v b f d->L2 C b f d a cost u v ro φ:=by
 have hn:=H.hn;have hK:=H.hK;have hi:=H.hi;have hE:=H.hE;have hB:=H.hB;intro n
 induction n with
 |zero=>
  intro D a u v b f d hn' S;exfalso;obtain⟨t1,hs⟩:=S.src;have hT:=hs.nodup;have:=hT.length_le_of_subset (l₂:=zY (C+1)) fun j hj=>by
   rw[wS];rcases zH.1 hj with rfl|hj
   .have:=S.aC;omega
   .have:=hs.le j hj;omega
  simp only[zB,List.length_range]at this;omega
 |succ n ih=>
  intro D a u v b f d hn' S;obtain⟨t1,hs⟩:=S.src;have aC:=S.aC;apply L2_step;refine⟨_,Abq (by rw[H.lr];omega),?_⟩;by_cases h0:0<=gI ro a
  .rw [if_pos h0];refine⟨_,Atw (by rw[S.ld];omega),?_⟩;obtain⟨r0,hr0,hri,_⟩:=Aec H.hA H.hC aC h0;rw[hr0,Ae3];have ld1:(d.set a true).length=C+1:=by rw[zK];exact S.ld
   have dn1:∀j,j<=C->gB (d.set a true) j=decide (j∈a::D):=fun j hj=>by
    rw[Bka (by rw[S.ld];omega)];by_cases e:j=a
    .rw [if_pos e,e];simp
    .rw [if_neg e,S.dn j hj];simp[e]
   have hKf:E+(B+E+E)+(B+E+E)<farZ:=by unfold farZ;omega
   refine scan H S hr0 ld1 dn1 (fun b1 f1 nx least lb1 lf1 hb1 hf1 hnx hnxD hl hmin=>?_) C 0 b f (-1) farZ (by omega) S.lb S.lf (fun j hj=>by rw[if_neg (by omega)]) (fun j hj=>by rw[if_neg (by omega)]) (.inl ⟨rfl,rfl,by omega⟩);have bb:∀j,j<C->j ∉ a::D->-1000000000000000<=gI b1 j/\gI b1 j<=1000000000000000:=fun j hj hjD=>by
    obtain⟨_,n1,n2⟩:=hs.newb H.hM H.hA H.hC H.hi H.hE H.hB hKf hr0 hj hjD;rw[hb1 j hj,if_pos hjD];omega
   refine shift H S h0 ld1 dn1 lb1 bb (by rw[hl];exact bb nx hnx hnxD) (fun b2 u2 v2 lb2 lu2 lv2 hu hv hb2=>?_) (C+1) 0 b1 u v (by omega) lb1 S.lu S.lv (fun r=>⟨fun j _ h=>by omega,fun _=>rfl⟩) (fun j _=>⟨fun h=>by omega,fun _=>rfl⟩) (fun j _=>⟨fun h=>by omega,fun _=>rfl⟩);have hfr:∀j,j<C->0<=gI f1 j/\gI f1 j<=C:=fun j hj=>by
    rw[hf1 j hj];have:=S.fr j hj
    split<;>omega
   refine ih (a::D) nx u2 v2 b2 f1 _ (by simp only[zB];omega) ⟨lu2,lv2,lb2,lf1,ld1,hfr,dn1,?_⟩;refine hs.step H.hM H.hA H.hC H.hi ⟨hB,by unfold farZ;omega⟩ hr0 (best1:=gI b1) (frm1:=fun j=>(gI f1 j).toNat) (least:=least) (fun j hj hjD=>?_) (fun j hjD=>?_) ⟨hnx,hnxD,hl,hmin⟩ hu hv hb2
   .constructor
    .rw [hb1 j hj,if_pos hjD];rfl
    .show (gI f1 j).toNat=_;rw[hf1 j hj];by_cases hlt:gM cost r0 j-gI u r0-gI v j<gI b j
     .rw [if_pos ⟨hjD,hlt⟩,if_pos hlt];exact zC a
     .rw [if_neg (fun h=>hlt h.2),if_neg hlt]
   .show (gI f1 j).toNat=(gI f j).toNat;by_cases hj:j<C
    .rw [hf1 j hj,if_neg fun h=>h.1 hjD]
    .rw [Bda (by omega),Bda (by rw[S.lf];omega)]
  .rw [if_neg h0];have hD:D≠[]:=fun hD=>by
    have:=hs.first hD
    rw[this,H.hC]at h0;omega
   exact walk H S hD (fun rw2 l1 l2 l3=>K u v rw2 S.lu S.lv l1 l2 l3) _ a ro (zV _) H.lr (PathA.start H.hA H.hC hs hD (by omega))
theorem far(n:Nat)(x:Int)(hn:C<1000):∀(m k:Nat)(b:List Int),k+m=C->b.length=C->(∀j,j<k->gI b j=farZ) ->
  (∃a6,lget ro (C:Int)=some a6)->(∀b:List Int,b.length=C->(∀j,j<C->gI b j=farZ)->L2 C b (zR C 0) (zR (C+1) false) C cost u v (lset ro C x) φ)->L1 x C b k cost u v ro φ:=by
 intro m
 induction m with
 |zero=>
  intro k b hk lb hb ⟨a6,h6⟩ K;have ew:IntKind.wrap .i64 ((C:Int)+1)=((C+1:Nat):Int):=Aa4 (by omega);apply L1_step;rw[zG,zC,if_neg (by omega),ew,zC];exact⟨a6,h6,K b lb fun j hj=>hb j (by omega)⟩
 |succ m ih=>
  intro k b hk lb hb h6 K;apply L1_step;rw[zG,zC,if_pos (by omega)];refine⟨_,Abq (by omega),?_⟩;rw[Ae3,Aa4 (by omega)];refine ih (k+1) _ (by omega) (by rw[zK];exact lb) (fun j hj=>?_) h6 K;rw[Acx (by omega)];by_cases e:j=k
  .rw [if_pos e];rfl
  .rw [if_neg e];exact hb j (by omega)
theorem spec{i R:Nat}{u v ro:List Int}(hM:MtxA (gM cost) R C E)(hA:AsgA (gM cost) C i B (gI u) (gI v) (gI ro))(hi:i<R)(hE:0<=E)(hB:0<=B)(hK:E+(B+E+E)+(B+E+E)<1000000000000000)
  (lu:u.length=R) (lv:v.length=C+1) (lr:ro.length=C+1) (lc:cost.length=R) (lcr:∀a∈cost,a.length=C) (hn:C<1000):
  ∃u2 v2 rw2:List Int,q27_.C i C cost u v ro ⟨cost,u2,v2,rw2⟩/\u2.length=R/\v2.length=C+1/\rw2.length=C+1/\gI rw2 C = -1/\AsgA (gM cost) C (i+1) (B+(E+E)) (gI u2) (gI v2) (gI rw2):=by
 have ew:IntKind.wrap .i64 ((C:Int)+1)=((C+1:Nat):Int):=Aa4 (by omega);have e1:∀j,j<C->gI (ro.set C i) j=gI ro j:=fun j hj=>by rw[Acx (by omega),if_neg (by omega)]
 have hA2:=hA.congr e1;have H:Ctx cost C R i E B (gI u) (gI v) (ro.set C i):=⟨hM,hA2,by rw[Acx (by omega),if_pos rfl],hi,hE,hB,hK,by rw[zK];exact lr,lc,lcr,hn⟩
 obtain⟨r,⟨u2,v2,rw2,rfl,k1,k2,k3,k4,k5⟩,h2⟩:=enter (i:Int) (C:Int) cost u v ro (fun r=>∃u2 v2 rw2:List Int,r=⟨cost,u2,v2,rw2⟩/\u2.length=R/\v2.length=C+1/\rw2.length=C+1/\gI rw2 C = -1/\AsgA (gM cost) C (i+1) (B+(E+E)) (gI u2) (gI v2) (gI rw2)) (by
  rw[ew];refine⟨by constructor<;>omega,by constructor<;>omega,by constructor<;>omega,?_⟩;rw[zC];refine far (n:=0) (i:Int) hn C 0 _ (by omega) (zG ..) (by omega) ⟨_,Abq (by omega)⟩ fun b lb hb=>?_;rw[Ae3];refine search H (fun u2 v2 rw2 k1 k2 k3 k4 k5=>⟨u2,v2,rw2,rfl,k1,k2,k3,k4,k5⟩) (C+1) [] C u v b _ _ (by simp) ⟨lu,lv,lb,zG ..,zG ..,fun j hj=>?_,fun j hj=>?_,?_⟩
  .have:gI (zR C 0) j=0:=by unfold gI;rw[yF];split<;>rfl
   rw[this];omega
  .have:gB (zR (C+1) false) j=false:=by unfold gB;rw[yF];split<;>rfl
   rw[this];simp
  .exact ⟨0,SrcA.start hA2 hb⟩)
 exact⟨u2,v2,rw2,h2,k1,k2,k3,k4,k5⟩
end q27_
theorem Alj{n:Nat}{j:Nat}:gI (zR n 0) j=0:=by
 unfold gI;rw[yF];split<;>rfl
theorem AsgA.congrc{c c2:Nat->Nat->Int}{C i:Nat}{B:Int}{u v row:Nat->Int}(h:AsgA c C i B u v row)(e:∀r j,r<i->j<C->c2 r j=c r j):AsgA c2 C i B u v row where
 rng:=h.rng
 inj:=h.inj
 sur:=h.sur
 feas:=fun r j hr hj=>by rw[e r j hr hj];exact h.feas r j hr hj
 tight:=fun r j hj hr=>by
  have:=(h.rng j hj).resolve_left (by omega);rw[e r j (by omega) hj];exact h.tight r j hj hr
 neg:=h.neg
 free:=h.free
 zero:=h.zero
 bu:=h.bu
 bv:=h.bv
namespace q65_
variable{cost:List (List Int)}{R n:Nat}{φ:assignment_solver->Prop}
theorem rows(hM:MtxA (gM cost) R n 1000000000)(lc:cost.length=R)(lcr:∀a∈cost,a.length=n)(hn:n<1000)
  (K:∀(u v ro:List Int)(B:Int),ro.length=n+1->gI ro n = -1->AsgA (gM cost) n R B (gI u) (gI v) (gI ro)->φ ⟨cost,u,v,ro⟩):
  ∀(m k:Nat)(u v ro:List Int),k+m=R->u.length=R->v.length=n+1->ro.length=n+1->gI ro n = -1->AsgA (gM cost) n k ((k:Int)*2000000000) (gI u) (gI v) (gI ro)->L2 cost n cost u v ro k φ:=by
 have hR:=hM.le;intro m
 induction m with
 |zero=>
  intro k u v ro hk lu lv lr hro hA;apply L2_step;rw[if_neg (by omega)];have:k=R:=by omega
  subst this;exact K u v ro _ lr hro hA
 |succ m ih=>
  intro k u v ro hk lu lv lr hro hA;apply L2_step;rw[if_pos (by omega)];obtain⟨u2,v2,ro2,h1,l1,l2,l3,l4,l5⟩:=q27_.spec hM hA (by omega) (by omega) (by omega) (by omega) lu lv lr lc lcr hn;refine⟨_,h1,?_⟩;rw[Aa4 (by omega)];refine ih (k+1) u2 v2 ro2 (by omega) l1 l2 l3 l4 ?_;have e:((k+1:Nat):Int)*2000000000=(k:Int)*2000000000+(1000000000+1000000000):=by omega
  rw[e];exact l5
theorem none_(hM:MtxA (gM cost) R n 1000000000)(lc:cost.length=R)(lcr:∀a∈cost,a.length=n)(hn:n<1000)
  (K:∀(u v ro:List Int)(B:Int),ro.length=n+1->gI ro n = -1->AsgA (gM cost) n R B (gI u) (gI v) (gI ro)->φ ⟨cost,u,v,ro⟩):
  ∀(m k:Nat)(ro:List Int),k+m=n+1->ro.length=n+1->(∀j,j<k->gI ro j = -1)->L1 cost n ro k φ:=by
 have ew:IntKind.wrap .i64 ((n:Int)+1)=((n+1:Nat):Int):=Aa4 (by omega);intro m
 induction m with
 |zero=>
  intro k ro hk lr hro;apply L1_step;rw[ew,zC,zG,if_neg (by omega)];refine rows hM lc lcr hn K R 0 _ _ ro (by omega) (by rw[zG];exact lc) (zG ..) lr (hro n (by omega)) ?_;have hr:∀j,j<n->gI ro j = -1:=fun j hj=>hro j (by omega);exact⟨fun j hj=>.inl (hr j hj),fun j k hj _ h0=>(by rw[hr j hj]at h0;omega),fun r h=>(by omega),fun r j h=>(by omega),fun r j hj h=>(by rw[hr j hj]at h;omega),fun j _=>(by rw[Alj];exact Int.le_refl _),fun j _ _=>Alj,fun r _=>Alj,fun r h=>(by omega),fun j _=>(by rw[Alj];omega)⟩
 |succ m ih=>
  intro k ro hk lr hro;apply L1_step;rw[ew,zC,zG,if_pos (by omega)];refine⟨_,Abq (by omega),?_⟩;rw[Ae3,Aa4 (by omega)];refine ih (k+1) _ (by omega) (by rw[zK];exact lr) fun j hj=>?_;rw[Acx (by omega)];by_cases e:j=k
  .rw [if_pos e]
  .rw [if_neg e];exact hro j (by omega)
theorem spec(hM:MtxA (gM cost) R n 1000000000)(lc:cost.length=R)(lcr:∀a∈cost,a.length=n)(hn:n<1000):
  ∃(u v ro:List Int)(B:Int),C cost n ⟨cost,u,v,ro⟩/\ro.length=n+1/\gI ro n = -1/\AsgA (gM cost) n R B (gI u) (gI v) (gI ro):=by
 have hR:=hM.le;have ew:IntKind.wrap .i64 ((n:Int)+1)=((n+1:Nat):Int):=Aa4 (by omega);obtain⟨r,⟨u,v,ro,B,rfl,h1,h2,h3⟩,h4⟩:=enter cost (n:Int) (fun r=>∃(u v ro:List Int)(B:Int),r=⟨cost,u,v,ro⟩/\ro.length=n+1/\gI ro n = -1/\AsgA (gM cost) n R B (gI u) (gI v) (gI ro)) (by
  rw[ew];refine⟨by constructor<;>omega,by constructor<;>omega,by constructor<;>omega,?_⟩;rw[zC]
  exact none_ hM lc lcr hn (fun u v ro B h1 h2 h3=>⟨u,v,ro,B,rfl,h1,h2,h3⟩) (n+1) 0 _ (by omega) (zG ..) (by omega))
 exact⟨u,v,ro,B,h4,h1,h2,h3⟩
end q65_
theorem Be4{g:List (List Int)}{n m:Nat}(h:GainOK g n){r j:Nat}(hr:r<g.length)(hj:j<n+m):gM (g.map (oppR m)) r j=if j<n then -gM g r j else 0:=by
 have hg:=zA hr;have hl:=h.cols _ (zT hr);unfold gM;rw[zS,hg];show gI (oppR m g[r]) j=if j<n then -gI g[r] j else 0
 unfold oppR gI;by_cases hjn:j<n
 .rw [if_pos hjn,List.getElem?_append_left (by rw[zF];omega),zS,zA (by omega)];simp
 .rw [if_neg hjn,yP (by rw[zF];omega),yF,zF,if_pos (by omega)];rfl
theorem Bkb{g:List (List Int)}{n:Nat}(h:GainOK g n){r j:Nat} : -1000000000<=gM g r j/\gM g r j<=1000000000:=by
 unfold gM gI;cases hg:g[r]? with
 |none=>simp
 |some a=>
  simp only[Option.getD_some];cases ha:a[j]? with
  |none=>simp
  |some x=>exact h.bnd a (zE hg) x (zE ha)
namespace q43_
variable{g:List (List Int)}{n:Nat}{φ:List Int×Int×Int->Prop}
theorem loop(h:GainOK g n){o:List Int}(lo:o.length=g.length)(ho:∀r,r<g.length->∃j:Nat,gI o r=(j:Int))
  (K:∀(col:List Int)(s:Int),col.length=g.length->(∀r,r<g.length->gI col r=if(n:Int)<=gI o r then -1 else gI o r)->φ (col,s,0)):
  ∀(m k:Nat)(l:List Int)(s:Int),k+m=g.length->l.length=g.length->(∀r,r<g.length->gI l r=if r<k/\(n:Int)<=gI o r then -1 else gI o r)->L1 g n l s (g.length:Int) k φ:=by
 have hR:=h.rows;intro m
 induction m with
 |zero=>
  intro k l s hk ll hl;apply L1_step;rw[if_neg (by omega)];refine K l s ll fun r hr=>?_;rw[hl r hr];by_cases hc:(n:Int)<=gI o r
  .rw [if_pos hc,if_pos ⟨by omega,hc⟩]
  .rw [if_neg hc,if_neg fun x=>hc x.2]
 |succ m ih=>
  intro k l s hk ll hl;have hkl:k<g.length:=by omega
  have hlk:gI l k=gI o k:=by rw[hl k hkl,if_neg (fun x=>absurd x.1 (yC k))]
  apply L1_step;rw[if_pos (by omega)];refine⟨_,Abq (by omega),?_⟩;rw[hlk];by_cases hc:(n:Int)<=gI o k
  .rw [if_pos hc,Ae3];apply L2_step;rw[Aa4 (by omega)];refine ih (k+1) _ _ (by omega) (by rw[zK];exact ll) fun r hr=>?_;rw[Acx (by omega)];by_cases e:r=k
   .subst e;rw[if_pos rfl,if_pos ⟨by omega,hc⟩]
   .rw [if_neg e,hl r hr];by_cases hc2:r<k/\(n:Int)<=gI o r
    .rw [if_pos hc2,if_pos ⟨by omega,hc2.2⟩]
    .rw [if_neg hc2,if_neg fun x=>hc2 ⟨by omega,x.2⟩]
  .rw [if_neg hc];obtain⟨j,hj⟩:=ho k hkl;have hrl:=h.cols _ (zT hkl);rw[hj]at hc⊢;refine⟨g[k],Aa8 (zA hkl),_,Abq (by omega),?_⟩;apply L2_step;rw[Aa4 (by omega)];refine ih (k+1) _ _ (by omega) ll fun r hr=>?_;rw[hl r hr];by_cases e:r=k
   .subst e;rw[if_neg (fun x=>absurd x.1 (yC r)),if_neg (fun x=>hc (by rw[<-hj];exact x.2))]
   .by_cases hc2:r<k/\(n:Int)<=gI o r
    .rw [if_pos hc2,if_pos ⟨by omega,hc2.2⟩]
    .rw [if_neg hc2,if_neg fun x=>hc2 ⟨by omega,x.2⟩]
theorem spec(h:GainOK g n)(hg:g≠[]):∃(col:List Int)(s:Int),C g (col,s,0)/\col.length=g.length /\
  ∃(u v row:Nat->Int)(B:Int),AsgA (fun r j=>if j<n then -gM g r j else 0) (n+g.length) g.length B u v row /\
   ∀r,r<g.length->∃c:Nat,c<n+g.length/\row c=(r:Int)/\gI col r=if c<n then(c:Int)else -1:=by
 have hR:=h.rows;have hle:=h.le;have lc:(g.map (oppR g.length)).length=g.length:=zF ..;have hM:MtxA (gM (g.map (oppR g.length))) g.length (n+g.length) 1000000000:=⟨by omega,fun r j hr hj=>by
  rw[Be4 h hr hj];have:=Bkb h (r:=r) (j:=j)
  split<;>omega⟩
 obtain⟨u,v,ro,B,h1,h2,h3,h4⟩:=q65_.spec hM lc (fun a ha=>by
  obtain⟨b,hb,rfl⟩:=zL.1 ha;unfold oppR
  rw[zD,zF,zG,h.cols b hb]) (by omega)
 have at_:∀{j:Nat}{a:Int},ro[j]?=some a->j<=n+g.length/\gI ro j=a:=fun {j a} hj=>by
  have:=(zI.1 hj).1;exact⟨by omega,by unfold gI;rw[hj];rfl⟩
 obtain⟨o,o1,o2,o3⟩:=q24_.spec (cost:=g.map (oppR g.length)) (u:=u) (v:=v) (ro:=ro) (by omega) (by omega) (fun j a hj=>by
  obtain⟨hjn,rfl⟩:=at_ hj;by_cases e:j=n+g.length
  .rw [e,h3];omega
  .rcases h4.rng j (by omega)with k|k<;>omega) (fun j k a hj hk h0=>by
  obtain⟨hjn,e1⟩:=at_ hj;obtain⟨hkn,e2⟩:=at_ hk;have h5:j≠n+g.length:=fun e=>by rw[e,h3]at e1;omega
  have h6:k≠n+g.length:=fun e=>by rw[e,h3]at e2;omega
  exact h4.inj j k (by omega) (by omega) (by omega) (by rw[e1,e2]))
 rw[lc]at o2;have hcol:∀r,r<g.length->∃c:Nat,c<n+g.length/\gI ro c=(r:Int)/\gI o r=(c:Int):=fun r hr=>by
  obtain⟨c,hc,e⟩:=h4.sur r hr;refine⟨c,hc,e,?_⟩;have hs:ro[c]?=some (r:Int):=by
   rw[zA (by omega)];unfold gI at e;rw[zA (by omega)]at e;exact congrArg some e
  have:=o3 r c hs;unfold gI;rw[this];rfl
 obtain⟨r,⟨col,s,rfl,c1,c2⟩,hr⟩:=enter g (fun r=>∃(col:List Int)(s:Int),r=(col,s,0)/\col.length=g.length/\∀r,r<g.length->gI col r=if(n:Int)<=gI o r then -1 else gI o r)
  ⟨0,q66_.spec h,by
   rw[if_pos rfl];refine⟨n,q67_.spec h hg,_,q33_.spec h hR,⟨g.map (oppR g.length),u,v,ro⟩,?_,_,o1,?_⟩
   .have:IntKind.wrap .i64 ((n:Int)+(g.length:Int))=((n+g.length:Nat):Int):=by rw[Abb]<;>omega
    rw[this];exact h1
   .show L1 g n o 0 (o.length:Int) 0 _;rw[o2]
    exact loop h o2 (fun r hr=>by obtain⟨c,_,_,e⟩:=hcol r hr;exact⟨c,e⟩) (fun col s c1 c2=>⟨col,s,rfl,c1,c2⟩) g.length 0 o 0 (by omega) o2 fun r _=>by rw[if_neg (fun x=>absurd x.1 (Nat.not_lt_zero r))]⟩
 refine⟨col,s,hr,c1,gI u,gI v,gI ro,B,h4.congrc fun r j hr hj=>(Be4 h hr hj).symm,fun r hr=>?_⟩;obtain⟨c,hc,e1,e2⟩:=hcol r hr;refine⟨c,hc,e1,?_⟩;rw[c2 r hr,e2];by_cases hcn:c<n
 .rw [if_pos hcn,if_neg (by omega)]
 .rw [if_neg hcn,if_pos (by omega)]
end q43_
def EnOK(m:Nat)(e:tractable_entry):Prop:=RwOK m e.row/\1<=e.weight/\e.weight<=1000000
def wE(e:tractable_entry):Int:=(e.weight.toNat:Int)
theorem Aj0(e:tractable_entry):0<=wE e:=by unfold wE;omega
theorem Bh6{m:Nat}{e:tractable_entry}(h:EnOK m e):wE e=e.weight:=by have:=h.2.1;unfold wE;omega
theorem Awg{m:Nat}{p:tractable_entry->Bool}:∀{l:List tractable_entry},(∀e∈l,EnOK m e)->wtA wE l p<=1000000*(l.length:Int)
 |[],_=>by simp[wtA]
 |e::l,h=>by
  rw[Ai3];have h1:=Awg (p:=p) (l:=l) fun x hx=>h x (by simp[hx]);have h2:=h e (by simp);have h3:=Bh6 h2;have:=h2.2.2;have:=h2.2.1;rw[zB]
  split<;>omega
structure SolK(D:List (Nat×Nat))(l:List tractable_entry)(k:tractable_kept):Prop where
 ex:∃p,BestA eqE wE D l p/\(∀i,i∈k.ids↔∃e∈l,p e=true/\e.row.ID=i)/\k.weight=wtA wE l p
 len:k.ids.length<=l.length
theorem SolK.wt{m:Nat}{D:List (Nat×Nat)}{l:List tractable_entry}{k:tractable_kept}(h:SolK D l k)(hl:∀e∈l,EnOK m e):0<=k.weight/\k.weight<=1000000*(l.length:Int):=by
 obtain⟨p,_,_,e⟩:=h.ex;rw[e];exact⟨Ahn Aj0,Awg hl⟩
namespace q110_
theorem spec{m:Nat}{l:List tractable_entry}(hl:∀e∈l,EnOK m e)(hlen:l.length<=1000):∃k,C l k/\SolK [] l k:=by
 obtain⟨k,⟨h1,h3⟩,h2⟩:=enter l (fun k=>k.ids=l.map (fun e=>e.row.ID)/\k.weight=wtA wE l fun _=>true) (by
  have go:∀(r q:List tractable_entry),q++r=l->L1 l (q.map fun e=>e.row.ID) (wtA wE q fun _=>true) (q.length:Int) (fun k=>k.ids=l.map (fun e=>e.row.ID)/\k.weight=wtA wE l fun _=>true):=by
   intro r
   induction r with
   |nil=>
    intro q hq;rw[yI]at hq;subst hq;apply L1_step;rw[if_neg (by omega)];exact⟨rfl,rfl⟩
   |cons x r ih=>
    intro q hq;have hl2:q.length+r.length+1=l.length:=by rw[<-hq];simp;omega
    have hx:x∈l:=by rw[<-hq];simp
    apply L1_step;rw[if_pos (by omega)];refine⟨x,by rw[<-hq];exact Aln,by rw[zF];omega,?_⟩;have hxx:=hl x hx;have hw:=Awg (p:=fun _=>true) (l:=q) fun e he=>hl e (by rw[<-hq];exact zX _ he);have hw0:=Ahn Aj0 (p:=fun _=>true) (l:=q);have h1:=hxx.2.1;have h2:=hxx.2.2;rw[Abb (by omega) (by omega),Aa4 (by omega)];have:=ih (q++[x]) (by simpa using hq);have e:wtA wE (q++[x]) (fun _=>true)=wtA wE q (fun _=>true)+x.weight:=by
     rw[Bau,Ai3,Bh6 hxx];simp[wtA]
    rw[e,zD,yM,xR]at this;exact this
  exact go l [] rfl)
 refine⟨k,h2,⟨fun _=>true,Bf9 Aj0 l,fun i=>?_,h3⟩,by rw[h1,zF];exact zV _⟩;rw[h1,zL];simp
end q110_
namespace q105_
theorem spec{l:List tractable_kept}(hl:∀k∈l,0<=k.weight/\k.weight<=1000000000/\k.ids.length<=1000)(hlen:l.length<=1000):C l ⟨l.flatMap (·.ids),(l.map (·.weight)).sum⟩:=by
 obtain⟨k,h1,h2⟩:=enter l (fun k=>k=⟨l.flatMap (·.ids),(l.map (·.weight)).sum⟩) (by
  have go:∀(r q:List tractable_kept),q++r=l->(q.flatMap (·.ids)).length<=q.length*1000->0<=(q.map (·.weight)).sum/\(q.map (·.weight)).sum<=(q.length:Int)*1000000000 ->
    L1 l (q.flatMap (·.ids)) (q.map (·.weight)).sum (q.length:Int) (fun k=>k=⟨l.flatMap (·.ids),(l.map (·.weight)).sum⟩):=by
   intro r
   induction r with
   |nil=>
    intro q hq _ _;rw[yI]at hq;subst hq;apply L1_step;rw[if_neg (by omega)]
   |cons x r ih=>
    intro q hq b1 b2;have hl2:q.length+r.length+1=l.length:=by rw[<-hq];simp;omega
    have hx:x∈l:=by rw[<-hq];simp
    obtain⟨x1,x2,x3⟩:=hl x hx;apply L1_step;rw[if_pos (by omega)];refine⟨x,by rw[<-hq];exact Aln,by omega,?_⟩;rw[Abb (by omega) (by omega),Aa4 (by omega)];have e1:(q++[x]).flatMap (·.ids)=q.flatMap (·.ids)++x.ids:=by simp
    have e2:((q++[x]).map (·.weight)).sum=(q.map (·.weight)).sum+x.weight:=by simp[List.sum_append]
    have:=ih (q++[x]) (by simpa using hq);rw[e1,e2,zD,zD,yM]at this;exact this (by omega) (by omega)
  exact go l [] rfl (by simp) (by simp))
 rw[<-h1];exact h2
end q105_
def jnM(M:Nat->Bool):Nat->List tractable_kept->List tractable_kept
 |_,[]=>[]
 |i,k::r=>if M i=true then k::jnM M (i+1) r else jnM M (i+1) r
theorem Bdi:∀{ks:List tractable_kept}{i:Nat},jnM (fun _=>true) i ks=ks
 |[],_=>rfl
 |k::r,i=>by rw[jnM,if_pos rfl,Bdi]
theorem Bdk{M:Nat->Bool}:∀{ks:List tractable_kept}{i:Nat},(jnM M i ks).length<=ks.length
 |[],_=>zV _
 |k::r,i=>by
  rw[jnM];have:=Bdk (M:=M) (ks:=r) (i:=i+1)
  split<;>simp only[zB]<;>omega
theorem As4{M:Nat->Bool}{x:tractable_kept}:∀{ks:List tractable_kept}{i:Nat},x∈jnM M i ks↔∃j,ks[j]?=some x/\M (i+j)=true
 |[],i=>by simp[jnM]
 |k::r,i=>by
  have ih:=As4 (M:=M) (x:=x) (ks:=r) (i:=i+1);have hs:(∃j,(k::r)[j]?=some x/\M (i+j)=true)↔(k=x/\M i=true)∨∃j,r[j]?=some x/\M (i+1+j)=true:=by
   constructor
   .rintro ⟨j,h1,h2⟩;cases j with
    |zero=>exact .inl ⟨by simpa using h1,h2⟩
    |succ j=>exact .inr ⟨j,by simpa using h1,by rw[xZ,wD 1 j];exact h2⟩
   .rintro (⟨h1,h2⟩|⟨j,h1,h2⟩)
    .exact ⟨0,by simp[h1],h2⟩
    .exact ⟨j+1,by simpa using h1,by rw[wD j 1,<-xZ];exact h2⟩
  rw[hs,jnM];by_cases h:M i=true
  .rw [if_pos h,zH,ih];constructor
   .rintro (h1|h1)
    .exact .inl ⟨h1.symm,h⟩
    .exact .inr h1
   .rintro (⟨h1,_⟩|h1)
    .exact .inl h1.symm
    .exact .inr h1
  .rw [if_neg h,ih];constructor
   .exact .inr
   .rintro (⟨_,h2⟩|h1)
    .exact absurd h2 h
    .exact h1
theorem Bdm{M:Nat->Bool}{F:List tractable_entry->Nat->Int}:∀{gs:List (List tractable_entry)}{ks:List tractable_kept}{i:Nat},ks.length=gs.length->(∀j g k,gs[j]?=some g->ks[j]?=some k->k.weight=F g (i+j)) ->
  ((jnM M i ks).map (·.weight)).sum=((gs.zipIdx i).map fun x=>if M x.2=true then F x.1 x.2 else 0).sum
 |[],[],_,_,_=>rfl
 |[],_::_,_,h,_=>by simp at h
 |_::_,[],_,h,_=>by simp at h
 |g::gs,k::ks,i,hl,h=>by
  have ih:=Bdm (M:=M) (F:=F) (gs:=gs) (ks:=ks) (i:=i+1) (by simpa using hl) fun j g' k' h1 h2=>by
   have:=h (j+1) g' k' (by simpa using h1) (by simpa using h2);rw[this,xZ,wD 1 j]
  have h0:=h 0 g k rfl rfl;rw[List.zipIdx_cons,xG,List.sum_cons,<-ih,jnM];by_cases hM:M i=true
  .rw [if_pos hM,if_pos hM,xG,List.sum_cons,h0];rfl
  .rw [if_neg hM,if_neg hM];simp
theorem Bdj{M:Nat->Bool}:∀{gs:List (List tractable_entry)}{ks:List tractable_kept}{i:Nat},ks.length=gs.length->(∀(j:Nat)(g:List tractable_entry)(k:tractable_kept),gs[j]?=some g->ks[j]?=some k->k.ids.length<=g.length) ->
  ((jnM M i ks).flatMap (·.ids)).length<=gs.flatten.length
 |[],[],_,_,_=>zV _
 |[],_::_,_,h,_=>by simp at h
 |_::_,[],_,h,_=>by simp at h
 |g::gs,k::ks,i,hl,h=>by
  have ih:=Bdj (M:=M) (gs:=gs) (ks:=ks) (i:=i+1) (by simpa using hl) fun j g' k' h1 h2=>h (j+1) g' k' (by simpa using h1) (by simpa using h2);have h0:=h 0 g k rfl rfl;rw[jnM,yW,zD]
  split
  .rw [yV,zD];omega
  .omega
open Classical in
theorem Bgy{α β:Type}[Inhabited β]{P:α->β->Prop}{Q:α->Prop}(h:∀a,Q a->∃b,P a b):∃f:α->β,∀a,Q a->P a (f a):=
 ⟨fun a=>if h2:Q a then Classical.choose (h a h2)else default,fun a ha=>by
  simp only[dif_pos ha]
  exact Classical.choose_spec (h a ha)⟩
structure PartsK(D:List (Nat×Nat))(n:Nat)(l:List tractable_entry)(gs:List (List tractable_entry))(ks:List tractable_kept)(ps:Nat->tractable_entry->Bool):Prop where
 gr:GroupsA eqE n l gs
 len:ks.length=gs.length
 best:∀i g,gs[i]?=some g->BestA eqE wE D g (ps i)
 ids:∀(i:Nat)(g:List tractable_entry)(k:tractable_kept),gs[i]?=some g->ks[i]?=some k->∀x,x∈k.ids↔∃e∈g,ps i e=true/\e.row.ID=x
 wt:∀(i:Nat)(g:List tractable_entry)(k:tractable_kept),gs[i]?=some g->ks[i]?=some k->k.weight=wtA wE g (ps i)
 few:∀(i:Nat)(g:List tractable_entry)(k:tractable_kept),gs[i]?=some g->ks[i]?=some k->k.ids.length<=g.length
theorem Bgc{D:List (Nat×Nat)}{n:Nat}{l:List tractable_entry}{gs:List (List tractable_entry)}{ks:List tractable_kept}(hg:GroupsA eqE n l gs)(hlen:ks.length=gs.length)(h:∀(i:Nat)(g:List tractable_entry)(k:tractable_kept),gs[i]?=some g->ks[i]?=some k->SolK D g k):∃ps,PartsK D n l gs ks ps:=by
 have one:∀i:Nat,i<gs.length->∃p:tractable_entry->Bool,∀(g:List tractable_entry)(k:tractable_kept),gs[i]?=some g->ks[i]?=some k->BestA eqE wE D g p/\(∀x,x∈k.ids↔∃e∈g,p e=true/\e.row.ID=x)/\k.weight=wtA wE g p:=fun i hi=>by
  have h1:=zA hi;have h2:=zA (l:=ks) (i:=i) (by omega);obtain⟨p,hp⟩:=(h i _ _ h1 h2).ex;refine⟨p,fun g k e1 e2=>?_⟩;rw[h1]at e1;rw[h2]at e2;cases e1;cases e2;exact hp
 obtain⟨ps,hps⟩:=Bgy one;have lt:∀{i:Nat}{g:List tractable_entry},gs[i]?=some g->i<gs.length:=fun h=>(zI.1 h).1;exact⟨ps,hg,hlen,fun i g hi=>(hps i (lt hi) g _ hi (zA (l:=ks) (i:=i) (by have:=lt hi;omega))).1,fun i g k h1 h2=>(hps i (lt h1) g k h1 h2).2.1,fun i g k h1 h2=>(hps i (lt h1) g k h1 h2).2.2,fun i g k h1 h2=>(h i g k h1 h2).len⟩
theorem PartsK.join{D D':List (Nat×Nat)}{n:Nat}{l:List tractable_entry}{gs:List (List tractable_entry)}{ks:List tractable_kept}{ps:Nat->tractable_entry->Bool}(h:PartsK D n l gs ks ps){M:Nat->Bool}(hb:BestA eqE wE D' l (Ahf gs ps M)):SolK D' l ⟨(jnM M 0 ks).flatMap (·.ids),((jnM M 0 ks).map (·.weight)).sum⟩:=by
 have kat:∀{i:Nat}{g:List tractable_entry},gs[i]?=some g->∃k,ks[i]?=some k:=fun {i g} hi=>by
  have:=(zI.1 hi).1;exact⟨_,zA (by rw[h.len];exact this)⟩
 refine⟨⟨_,hb,fun x=>?_,?_⟩,?_⟩
 .show x∈(jnM M 0 ks).flatMap (·.ids)↔_;rw[wK];constructor
  .rintro ⟨k,hk,hx⟩;obtain⟨i,hi,hM⟩:=As4.1 hk;rw[xO]at hM;have hil:=(zI.1 hi).1;have hg:=zA (l:=gs) (i:=i) (by rw[<-h.len];exact hil);obtain⟨e,he,hp,hid⟩:=(h.ids i _ k hg hi x).1 hx;exact⟨e,h.gr.mem.2 ⟨i,_,hg,he⟩,Ae5.2 ⟨i,_,hg,he,hM,hp⟩,hid⟩
  .rintro ⟨e,he,hp,hid⟩;obtain⟨i,g,hg,heg,hM,hpi⟩:=Ae5.1 hp;obtain⟨k,hk⟩:=kat hg;exact⟨k,As4.2 ⟨i,hk,by rw[xO];exact hM⟩,(h.ids i g k hg hk x).2 ⟨e,heg,hpi,hid⟩⟩
 .show ((jnM M 0 ks).map (·.weight)).sum=_;rw[Api Ap5 h.gr];exact Bdm (F:=fun g i=>wtA wE g (ps i)) h.len fun j g k h1 h2=>by rw[xO];exact h.wt j g k h1 h2
 .show ((jnM M 0 ks).flatMap (·.ids)).length<=_;rw[h.gr.perm.length_eq];exact Bdj h.len h.few
theorem PartsK.bnd{m:Nat}{D:List (Nat×Nat)}{n:Nat}{l:List tractable_entry}{gs:List (List tractable_entry)}{ks:List tractable_kept}{ps:Nat->tractable_entry->Bool}(h:PartsK D n l gs ks ps)(hl:∀e∈l,EnOK m e)(hlen:l.length<=60):
  gs.length<=60/\∀k∈ks,0<=k.weight/\k.weight<=1000000000/\k.ids.length<=1000:=by
 have hf:=h.gr.perm.length_eq;have hle:∀(gs:List (List tractable_entry)),(∀g∈gs,g≠[])->gs.length<=gs.flatten.length:=by
  intro gs
  induction gs with
  |nil=>intro _;exact zV _
  |cons g gs ih=>
   intro h;have:=ih fun x hx=>h x (by simp[hx]);have:=List.length_pos_iff.2 (h g (by simp));rw[yW,zD,zB];omega
 have hgl:=hle gs h.gr.ne;refine⟨by omega,fun k hk=>?_⟩;obtain⟨i,hi⟩:=List.getElem?_of_mem hk;have hil:=(zI.1 hi).1;have hg:=zA (l:=gs) (i:=i) (by rw[<-h.len];exact hil);have hgm:=zE hg;generalize gs[i]'(by rw[<-h.len];exact hil)=g at hg hgm;have hsub:∀e∈g,e∈l:=fun e he=>h.gr.mem.2 ⟨i,g,hg,he⟩;have hgs:g.length<=gs.flatten.length:=by
  obtain⟨A,B,e⟩:=List.append_of_mem hgm;rw[e];simp only[List.flatten_append,yW,zD];omega
 have h1:=h.wt i g k hg hi;have h2:=Ahn Aj0 (p:=ps i) (l:=g);have h3:=Awg (p:=ps i) (l:=g) fun e he=>hl e (hsub e he);have h4:=h.few i g k hg hi;omega
def nrB(b:ByteArray):List ByteArray->Nat
 |[]=>0
 |c::r=>if c=b then 0 else nrB b r+1
theorem Apc{b:ByteArray}:∀{K:List ByteArray},b∈K->K[nrB b K]?=some b
 |[],h=>by cases h
 |c::r,h=>by
  rw[nrB];by_cases e:c=b
  .rw [if_pos e,e];rfl
  .rw [if_neg e];rcases zH.1 h with h|h
   .exact absurd h.symm e
   .simpa using Apc h
theorem Be2{b:ByteArray}{K:List ByteArray}(h:b∈K):nrB b K<K.length:=(zI.1 (Apc h)).1
theorem Bah{b c:ByteArray}{K:List ByteArray}(h:b∈K)(h2:c∈K):nrB b K=nrB c K↔b=c:=by
 constructor
 .intro e;have h1:=Apc h;rw[e,Apc h2]at h1;exact(Option.some.inj h1).symm
 .exact fun e=>by rw[e]
theorem Aty{b:ByteArray}{M:List ByteArray}:∀{K:List ByteArray},b∈K->nrB b (K++M)=nrB b K
 |[],h=>by cases h
 |c::r,h=>by
  rw[zN,nrB,nrB];by_cases e:c=b
  .rw [if_pos e,if_pos e]
  .rw [if_neg e,if_neg e];rcases zH.1 h with h|h
   .exact absurd h.symm e
   .rw [Aty h]
theorem Atz{b:ByteArray}:∀{K:List ByteArray},b ∉ K->nrB b (K++[b])=K.length
 |[],_=>by rw[xD,nrB,if_pos rfl];rfl
 |c::r,h=>by
  have h1:¬c=b:=fun e=>h (by simp[e]);rw[zN,nrB,if_neg h1,Atz fun hh=>h (by simp[hh])];rfl
structure NumM(K:List ByteArray)(m:List (ByteArray×Int)):Prop where
 len:m.length=K.length
 has:∀b,b∈K->mget b m=some ((nrB b K:Nat):Int)
 no:∀b,b ∉ K->mget b m=none
open Classical in
noncomputable def adB(b:ByteArray)(K:List ByteArray):List ByteArray:=if b∈K then K else K++[b]
theorem Azu{b:ByteArray}{K:List ByteArray}:b∈adB b K:=by unfold adB;split<;>simp[*]
theorem Awp{b c:ByteArray}{K:List ByteArray}(h:c∈K):c∈adB b K/\nrB c (adB b K)=nrB c K:=by
 unfold adB
 split
 .exact ⟨h,rfl⟩
 .exact ⟨zX _ h,Aty h⟩
theorem Azt{b:ByteArray}{K:List ByteArray}:(adB b K).length<=K.length+1:=by unfold adB;split<;>simp
theorem Ay2{κ ν:Type}[DecidableEq κ]{k:κ}{v:ν}:∀{l:List (κ×ν)},mget k l=none->(mset k v l).length=l.length+1
 |[],_=>rfl
 |(k',v')::r,h=>by
  rw[mget]at h;by_cases e:k=k'
  .rw [if_pos e]at h;cases h
  .rw [if_neg e]at h;rw[mset,if_neg e,zB,Ay2 h,zB]
theorem q68_.spec{b:ByteArray}{K:List ByteArray}{m:List (ByteArray×Int)}(h:NumM K m):∃m2,q68_.C b m (((nrB b (adB b K):Nat):Int),m2)/\NumM (adB b K) m2:=by
 by_cases hb:b∈K
 .have e:adB b K=K:=if_pos hb;have hg:=h.has b hb;obtain⟨r,h1,h2⟩:=q68_.enter b m (fun r=>r=(((nrB b K:Nat):Int),m)) (by
   rw[if_pos (by unfold mhas;rw[hg];rfl)]
   unfold Asj;rw[hg];rfl)
  rw[h1]at h2;rw[e];exact⟨m,h2,h⟩
 .have e:adB b K=K++[b]:=if_neg hb;have hg:=h.no b hb;obtain⟨r,h1,h2⟩:=q68_.enter b m (fun r=>r=(((K.length:Nat):Int),mset b (m.length:Int) m)) (by
   rw[if_neg (by unfold mhas;rw[hg];simp),h.len])
  rw[h1]at h2;rw[e,Atz hb];refine⟨_,h2,⟨by rw[Ay2 hg,h.len];simp,fun c hc=>?_,fun c hc=>?_⟩⟩
  .rw [Agv];by_cases ec:b=c
   .subst ec;rw[if_pos rfl,Atz hb,h.len]
   .rw [if_neg ec];rcases zO.1 hc with hc|hc
    .rw [Aty hc];exact h.has c hc
    .exact absurd (zQ.1 hc).symm ec
  .rw [Agv,if_neg (fun ec=>hc (by simp[ec]))];exact h.no c fun hh=>hc (by simp[hh])
theorem Bju{α:Type}{F:α->Nat->Int}{f:Nat->Int}{gs:List α}(h:∀(i:Nat) g,gs[i]?=some g->F g i=f i):(gs.zipIdx.map fun z=>F z.1 z.2).sum=sumA f gs.length:=by
 unfold sumA;congr 1;apply List.ext_getElem
 .simp
 .intro i h1 h2;simp only[List.getElem_map,List.getElem_zipIdx,xO,List.getElem_range];rw[zF,List.length_zipIdx]at h1;exact h i _ (zA h1)
def pop8(m:Nat):Nat:=((zY 8).filter fun i=>m.testBit i).length
theorem Ah5{n k:Nat}:((zY 8).map (·+k)).filter (fun i=>n.testBit i)=((zY 8).filter fun i=>(n / 2^k%256).testBit i).map (·+k):=by
 rw[List.filter_map];congr 1;refine wG fun i hi=>?_;have hi:=wS.1 hi;simp only[Function.comp];rw[show(256:Nat)=2^8 from rfl,Nat.testBit_mod_two_pow,Nat.testBit_div_two_pow];simp[hi]
theorem Bel(n:Nat):szN n=pop8 (n%256)+pop8 (n / 2^8%256)+pop8 (n / 2^16%256)+pop8 (n / 2^24%256):=by
 have e:zY 32=(zY 8).map (·+0)++(zY 8).map (·+8)++(zY 8).map (·+16)++(zY 8).map (·+24):=by decide
 unfold szN Aau pop8;rw[e,yT,yT,yT,Ah5,Ah5,Ah5,Ah5];simp only[zD,zF,Nat.pow_zero,Nat.div_one]
theorem Bk3(a:Nat):a &&& 255=a%256:=xC a 8
theorem Alu{m:Nat}:pop8 m<=8:=by
 unfold pop8;exact yR (xB _ _) (by simp)
theorem Aph{m:Nat}:u8i (UInt8.ofNat (pop8 m))=(pop8 m:Int):=by
 unfold u8i;rw[UInt8.toNat_ofNat'];have:=Alu (m:=m);omega
theorem q28_.spec{n:Nat}(hn:n<2^32):q28_.C n (szN n:Int):=by
 obtain⟨r,h1,h2⟩:=q28_.enter n (fun r=>r=(szN n:Int)) (by
  have ht:n<2^top .u32:=by simpa[top]using hn
  have e24:=Aed (k:=.u32) (a:=n) (i:=24) ht;have e16:=Aed (k:=.u32) (a:=n) (i:=16) ht;have e8:=Aed (k:=.u32) (a:=n) (i:=8) ht;rw[show((24:Nat):Int)=24 from rfl]at e24;rw[show((16:Nat):Int)=16 from rfl]at e16;rw[show((8:Nat):Int)=8 from rfl]at e8;have a255:∀a:Nat,a<2^32->bAnd .u32 (a:Int) 255=((a%256:Nat):Int):=fun a ha=>by
   have:=Afh (k:=.u32) (a:=a) (b:=255) (by simpa[top]using ha) (by simp only[top];omega);rw[show((255:Nat):Int)=255 from rfl]at this;rw[this,Bk3]
  rw[e24,e16,e8,a255 _ (yB (wP _ _) hn),a255 _ (yB (wP _ _) hn),a255 _ hn];have h24:n / 2^24<256:=by omega
  have em:n / 2^24=n / 2^24%256:=(xN h24).symm;have hs:=Bel n;rw[em];have m1:n / 2^24%256<256:=xJ _ (by omega);have m2:n / 2^16%256<256:=xJ _ (by omega);have m3:n / 2^8%256<256:=xJ _ (by omega);have m4:n%256<256:=xJ _ (by omega);generalize n / 2^24%256=q1 at *;generalize n / 2^16%256=q2 at *;generalize n / 2^8%256=q3 at *;generalize n%256=q4 at *;clear hn ht e24 e16 e8 a255 h24 em;refine⟨UInt8.ofNat (pop8 q1),⟨by omega,?_⟩,UInt8.ofNat (pop8 q2),⟨by omega,?_⟩,UInt8.ofNat (pop8 q3),⟨by omega,?_⟩,UInt8.ofNat (pop8 q4),⟨by omega,?_⟩,?_⟩
  .rw [zC];clear hs m2 m3 m4
   revert q1
   decide +kernel
  .rw [zC];clear hs m1 m3 m4
   revert q2
   decide +kernel
  .rw [zC];clear hs m1 m2 m4
   revert q3
   decide +kernel
  .rw [zC];clear hs m1 m2 m3
   revert q4
   decide +kernel
  .rw [Aph,Aph,Aph,Aph];have b1:=Alu (m:=q1);have b2:=Alu (m:=q2);have b3:=Alu (m:=q3);have b4:=Alu (m:=q4);have w8:∀a b:Nat,a+b<256->IntKind.wrap .u8 ((a:Int)+(b:Int))=((a+b:Nat):Int):=fun a b h=>by
    rw[show(a:Int)+(b:Int)=((a+b:Nat):Int) by omega];exact Af1 (k:=.u8) (by simpa[top]using h)
   rw[w8 _ _ (by omega),w8 _ _ (by omega),w8 _ _ (by omega),hs];have:pop8 q1+pop8 q2+pop8 q3+pop8 q4=pop8 q4+pop8 q3+pop8 q2+pop8 q1:=by omega
   rw[this]
   exact Abb (by omega) (by omega))
 rw[<-h1];exact h2
theorem q120_.spec{x:Int}(hx:U32 x):q120_.C x (szN (sN x):Int):=by
 have:=q28_.spec hx.lt;rw[<-hx.eq]at this;obtain⟨r,h1,h2⟩:=q120_.enter x (fun r=>r=(szN (sN x):Int)) ⟨_,this,rfl⟩;rw[<-h1];exact h2
theorem q44_.spec{n:Nat}(hn:n<2^32):q44_.C n ((Aau n).map fun(i:Nat)=>(i:Int)):=by
 obtain⟨r,h1,h2⟩:=q44_.enter n (fun r=>r=(Aau n).map fun(i:Nat)=>(i:Int)) (by
  have:∀(m k:Nat),32-k<=m->k<=32->q44_.L1 n (((zY k).filter fun i=>n.testBit i).map fun(i:Nat)=>(i:Int)) k (fun r=>r=(Aau n).map fun(i:Nat)=>(i:Int)):=by
   intro m
   induction m with
   |zero=>
    intro k hm hk;apply q44_.L1_step;rw[if_neg (by omega)];have e:k=32:=by omega
    subst e;rfl
   |succ m ih=>
    intro k hm hk;apply q44_.L1_step;by_cases hlt:k<32
    .rw [if_pos (by omega)];refine⟨_,q104_.spec hn,?_⟩;have hlen:(((zY k).filter fun i=>n.testBit i).map fun(i:Nat)=>(i:Int)).length<=32:=by
      rw[zF];exact yR (xB _ _) (by simp;omega)
     have:=ih (k+1) (by omega) (by omega);rw[wQ,yT,xR]at this;by_cases hb:n.testBit k=true
     .rw [if_pos hb];refine⟨by omega,?_⟩;apply q44_.L2_step;rw[Aa4 (by omega)];simpa[hb]using this
     .rw [if_neg hb];apply q44_.L2_step;rw[Aa4 (by omega)];simpa[hb]using this
    .rw [if_neg (by omega)];have e:k=32:=by omega
     subst e;rfl
  exact this 32 0 (by omega) (by omega))
 rw[<-h1];exact h2
def Aib(t:api_Table)(n:Nat):List (List api_Value):=t.Rows.map fun r=>pick r.Values n
theorem Amo{t:api_Table}(ht:TV t){n i j:Nat}(hn:n<2^32)(hi:i<t.Rows.length)(hj:j<t.Rows.length):(Aib t n)[i]?=(Aib t n)[j]?↔∀k,n.testBit k=true->(t.Rows[i]'hi).Values[k]?=(t.Rows[j]'hj).Values[k]?:=by
 unfold Aib;rw[zS,zS,zA hi,zA hj];simp only[Option.map_some,zJ];rw[<-Aue hn (by rw[ht.len (zT hi),ht.len (zT hj)])];unfold Aif;rw[decide_eq_true_iff]
def OkP(t:api_Table)(l r i k:Nat):Prop:=(Aib t l)[i]?=(Aib t l)[k]?->(Aib t r)[i]?=(Aib t r)[k]?
def SatP(t:api_Table)(l r:Nat):Prop:=∀i k,i<t.Rows.length->k<i->OkP t l r i k
theorem SatP.all{t:api_Table}{l r:Nat}(h:SatP t l r){i k:Nat}(hi:i<t.Rows.length)(hk:k<t.Rows.length):OkP t l r i k:=by
 rcases Nat.lt_trichotomy i k with h1|h1|h1
 .exact fun e=>(h k i hk h1 e.symm).symm
 .subst h1;exact fun _=>rfl
 .exact h i k hi h1
theorem agr{t:api_Table}{n i k:Nat}(hi:i<t.Rows.length)(hk:k<t.Rows.length):Aif (t.Rows[i]).Values (t.Rows[k]).Values n=true↔(Aib t n)[i]?=(Aib t n)[k]?:=by
 unfold Aib Aif;rw[zS,zS,zA hi,zA hk];simp
def EqA(t:api_Table)(i k a:Nat):Prop:=(t.Rows[i]?.map fun r=>r.Values[a]?)=(t.Rows[k]?.map fun r=>r.Values[a]?)
instance (t:api_Table) (i k a:Nat):Decidable (EqA t i k a):=by unfold EqA;infer_instance
theorem Bdg{l:List Int}{x:Int}(hl:l.length<=1000000):q25_.C l x (ixI (fun a=>decide (x=a)) l):=by
 obtain⟨q,h1,h2⟩:=q25_.enter l x (fun q=>q=ixI (fun a=>decide (x=a)) l) (by
  refine Acs (l:=l) (p:=fun a=>decide (x=a)) (L:=fun i=>q25_.L1 l x i _) (φ:=fun q=>q=ixI (fun a=>decide (x=a)) l) ?_ ?_ rfl
  .intro h;apply q25_.L1_step;rw[if_neg (by omega)];exact h
  .intro k a hk hlt h;apply q25_.L1_step;rw[if_pos (by omega)];refine⟨a,Aa8 hk,?_⟩;rw[Aa4 (by omega)];by_cases hx:x=a
   .rw [if_pos hx];rw[if_pos (decide_eq_true hx)]at h;exact h
   .rw [if_neg hx];rw[if_neg (by rw[decide_eq_true_iff];exact hx)]at h;exact h)
 rw[<-h1];exact h2
theorem Ax8{l:List Int}{x:Int}(hl:l.length<=1000000):q21_.C l x (decide (x∈l)):=by
 obtain⟨q,h1,h2⟩:=q21_.enter l x (fun q=>q=decide (x∈l)) ⟨_,Bdg hl,by
  rw[Aek,Bool.eq_iff_iff,yA,decide_eq_true_iff];constructor
  .rintro ⟨y,hy,he⟩;rw[of_decide_eq_true he];exact hy
  .exact fun hy=>⟨x,hy,decide_eq_true rfl⟩⟩
 rw[<-h1];exact h2
theorem Amh{n:Nat}:∀{l:List api_Row}{last:Int},Ach n last l=0->l.Pairwise (fun a b=>a.ID<b.ID)
 |[],_,_=>.nil
 |r::l,last,h=>by
  have h':Ach n r.ID l=0:=by
   simp only[Ach]at h
   split at h
   .cases h
   .split at h
    .split at h
     .exact h
     .cases h
    .cases h
  exact .cons (fun x hx=>(Aiv h' x hx).2.2) (Amh h')
theorem q116_.spec{r:api_Row}(h:r.Values.length<=1000):q116_.C r r:=by
 obtain⟨q,h1,h2⟩:=q116_.enter r (fun q=>q=r) ⟨by omega,rfl⟩;subst h1;exact h2
theorem q98_.spec{t:api_Table}{l:List api_Row}(ha:t.Attrs.length<=1000)(hl:l.length<=1000000)(hr:∀r∈l,r.Values.length<=1000):q98_.C t l ⟨t.Name,t.Attrs,l⟩:=by
 obtain⟨q,h1,h2⟩:=q98_.enter t l (fun q=>q=⟨t.Name,t.Attrs,l⟩) ⟨by omega,by
  have go:∀(r:List api_Row)(i:Nat)(acc:List api_Row),l.drop i=r->acc.length<=i->acc++r=l->q98_.L1 l t acc (i:Int) (fun q=>q=⟨t.Name,t.Attrs,l⟩):=by
   intro r
   induction r with
   |nil=>
    intro i acc hd hi h;have:=Ab7 hd;apply q98_.L1_step;rw[if_neg (by omega)];rw[yI]at h;rw[h]
   |cons x r ih=>
    intro i acc hd hi h;have hlt:=Ab8 hd;apply q98_.L1_step;rw[if_pos (by omega)];refine⟨x,Ab6 hd,_,q116_.spec (hr x (zE (Aax hd))),by omega,?_⟩;rw[Aa4 (by omega)];exact ih (i+1) _ (Aap hd) (by rw[zD];simp;omega) (by rw[yD];exact h)
  exact go l 0 [] rfl (by simp) rfl⟩
 subst h1;exact h2
theorem Bby{n:Nat}:∀{l:List api_Row}{a b:Int},Ach n b l=0->a<=b->Ach n a l=0
 |[],_,_,_,_=>rfl
 |r::l,a,b,h,hab=>by
  simp only[Ach]at h⊢;by_cases h1:r.ID<=b
  .rw [if_pos h1]at h;exact absurd h (by decide)
  .rw [if_neg h1]at h;rw[if_neg (by omega)];exact h
theorem Bed{n:Nat}{l m:List api_Row}(h:m.Sublist l):∀{last:Int},Ach n last l=0->Ach n last m=0:=by
 induction h with
 |slnil=>exact fun h=>h
 |cons r _ ih=>
  intro last h;simp only[Ach]at h
  split at h
  .exact absurd h (by decide)
  .rename_i h1
   split at h
   .split at h
    .exact Bby (ih h) (by omega)
    .exact absurd h (by decide)
   .exact absurd h (by decide)
 |cons_cons r _ ih=>
  intro last h;simp only[Ach]at h⊢
  split at h
  .exact absurd h (by decide)
  .rename_i h1;rw[if_neg h1]
   split at h
   .rename_i h2;rw[if_pos h2]
    split at h
    .rename_i h3;rw[if_pos h3];exact ih h
    .exact absurd h (by decide)
   .exact absurd h (by decide)
theorem q107_.spec{l:List Int}{x:Int}(hl:l.length<=1000000):q107_.C l x (decide (x∈l)):=by
 obtain⟨q,h1,h2⟩:=q107_.enter l x (fun q=>q=decide (x∈l)) (by
  have go:∀(r:List Int)(i:Nat),l.drop i=r->(∀y∈l.take i,y≠x)->q107_.L1 l x (i:Int) (fun q=>q=decide (x∈l)):=by
   intro r
   induction r with
   |nil=>
    intro i hd hn;have:=Ab7 hd;apply q107_.L1_step;rw[if_neg (by omega)];rw[yY this]at hn;exact(decide_eq_false fun hx=>hn x hx rfl).symm
   |cons y r ih=>
    intro i hd hn;have hlt:=Ab8 hd;apply q107_.L1_step;rw[if_pos (by omega)];refine⟨y,Ab6 hd,?_⟩;by_cases hy:y=x
    .rw [if_pos hy];subst hy;exact(decide_eq_true (zE (Aax hd))).symm
    .rw [if_neg hy,Aa4 (by omega)];refine ih (i+1) (Aap hd) fun z hz=>?_;rw[yL,Aax hd]at hz;rcases zO.1 hz with hz|hz
     .exact hn z hz
     .simp at hz;rw[hz];exact hy
  exact go l 0 rfl (fun y hy=>by simp at hy))
 subst h1;exact h2
namespace q30_
theorem inner{t:api_Table}{fd:api_FD}{l r:Nat}{φ:Bool->Prop}{i:Nat}(ht:TV t)(el:fd.Lhs=l)(er:fd.Rhs=r)(hl:l<2^32)(hr:r<2^32)(hi:i<t.Rows.length)(hf:¬SatP t l r->φ false)
  (h:(∀k,k<i->OkP t l r i k)->L1 t fd ((i+1:Nat):Int) φ):∀k,k<=i->((∀j,j<k->OkP t l r i j)->L2 t fd i k φ):=by
 have nr:=ht.nr;have na:=ht.na;refine down ?_ ?_
 .intro hk;apply L2_step;rw[if_neg (by omega),Aa4 (by omega)];exact h hk
 .intro k hk ih hj;apply L2_step;rw[if_pos (by omega)];have mi:=zT hi;have mk:=zT (l:=t.Rows) (n:=k) (by omega);have sv:∀v∈(t.Rows[i]).Values,v.Str.toList.length<Big:=fun v hv=>by have:=Ber (ht.val mi v hv);unfold Big;omega
  have la:=ht.len mi;have lb:=ht.len mk;have next:OkP t l r i k->L3 t fd i k φ:=fun ho=>by
   apply L3_step;rw[Aa4 (by omega)];refine ih fun j hjk=>?_;by_cases hjj:j=k
   .subst hjj;exact ho
   .exact hj j (by omega)
  refine⟨t.Rows[i],Aa8 (zA hi),t.Rows[k],Aa8 (zA (by omega)),_,by rw[el];exact q63_.spec hl (by omega) (by omega) sv,?_⟩
  split
  .rename_i h1;refine⟨_,by rw[er];exact q63_.spec hr (by omega) (by omega) sv,?_⟩
   split
   .rename_i h2;exact next fun _=>(agr hi (by omega)).1 h2
   .rename_i h2;refine hf fun hs=>h2 ?_;exact(agr hi (by omega)).2 (hs i k hi hk ((agr hi (by omega)).1 h1))
  .rename_i h1;exact next fun hh=>absurd ((agr hi (by omega)).2 hh) h1
theorem spec{t:api_Table}{fd:api_FD}{l r:Nat}(ht:TV t)(el:fd.Lhs=l)(er:fd.Rhs=r)(hl:l<2^32)(hr:r<2^32):∃b,C t fd b/\(b=true↔SatP t l r):=by
 obtain⟨b,h1,h2⟩:=enter t fd (fun b=>(b=true↔SatP t l r)) (by
  have nr:=ht.nr;have hf:¬SatP t l r->(false=true↔SatP t l r):=fun h=>by simp[h]
  have loop:∀i,i<=t.Rows.length->((∀a,a<i->∀k,k<a->OkP t l r a k)->L1 t fd i fun b=>(b=true↔SatP t l r)):=by
   refine down ?_ ?_
   .intro h;apply L1_step;rw[if_neg (by omega)];simp only[true_iff];exact fun i k hi hk=>h i hi k hk
   .intro i hi ih hh;apply L1_step;rw[if_pos (by omega)];refine inner ht el er hl hr hi hf (fun hk=>ih fun a ha k hka=>?_) 0 (yJ _) (fun j hj=>by omega);by_cases hai:a=i
    .subst hai;exact hk k hka
    .exact hh a (by omega) k hka
  exact loop 0 (yJ _) (fun a ha=>by omega))
 exact⟨b,h2,h1⟩
end q30_
def ofV(c:Nat):api_Value:=
 match c%12 with
 |0=>⟨1,0,⟨#[]⟩⟩
 |1=>⟨1,1,⟨#[]⟩⟩
 |2=>⟨1,2,⟨#[]⟩⟩
 |3=>⟨0,0,⟨#[]⟩⟩
 |4=>⟨2,0,⟨#[97]⟩⟩
 |5=>⟨2,0,⟨#[98]⟩⟩
 |6=>⟨2,0,⟨#[]⟩⟩
 |7=>⟨3,1,⟨#[]⟩⟩
 |8=>⟨1,-1,⟨#[]⟩⟩
 |9=>⟨2,0,⟨#[97,98]⟩⟩
 |10=>⟨3,2,⟨#[]⟩⟩
 |_=>⟨1,7,⟨#[]⟩⟩
theorem Bmv(c:Nat):Aaz (ofV c)=true/\Ai4 (ofV c):=by
 have e1:(⟨#[97]⟩:ByteArray).toList=[97]:=Ap0 (l:=[97]);have e2:(⟨#[98]⟩:ByteArray).toList=[98]:=Ap0 (l:=[98]);have e3:(⟨#[97,98]⟩:ByteArray).toList=[97,98]:=Ap0 (l:=[97,98]);unfold ofV Ai4 Aaz
 split<;>simp[Aww,e1,e2,e3]
namespace q117_
theorem spec(c:Nat):C c (ofV c):=by
 obtain⟨r,h1,h2⟩:=enter c (fun r=>r=ofV c) (by
  have e:Int.tmod (c:Int) 12=((c%12:Nat):Int):=rfl;rw[e];unfold ofV;have hc:c%12<12:=xJ _ (by decide);generalize c%12=m at hc
  match m,hc with
  |0,_=>rfl
  |1,_=>rfl
  |2,_=>rfl
  |3,_=>rfl
  |4,_=>rfl
  |5,_=>rfl
  |6,_=>rfl
  |7,_=>rfl
  |8,_=>rfl
  |9,_=>rfl
  |10,_=>rfl
  |11,_=>rfl)
 rw[<-h1];exact h2
end q117_
def Be0:List ByteArray:=[⟨#[97]⟩,⟨#[98]⟩,⟨#[99]⟩,⟨#[100]⟩,⟨#[101]⟩,⟨#[102]⟩,⟨#[103]⟩,⟨#[104]⟩]
structure RecOK(x:drossref03_Recipe):Prop where
 at_:0<=x.Attrs/\x.Attrs<256
 gap:0<=x.Gap/\x.Gap<256
 code:∀r∈x.Rows,∀c∈r,0<=c/\c<256
def Anp(r:List Int)(k:Nat):Nat:=((r[k]?).getD 0).toNat
def Af9(r:List Int)(n:Nat):List api_Value:=(zY n).map fun k=>ofV (Anp r k)
def Ajh(x:drossref03_Recipe)(n:Nat):api_Table:=⟨⟨#[114]⟩,Be0.take n,x.Rows.zipIdx.map fun p=>⟨1+(p.2:Int)*(1+x.Gap%3),Af9 p.1 n⟩⟩
namespace q100_
theorem inner{x:drossref03_Recipe}{n:Nat}{φ:api_Table->Prop}{acc:List api_Row}{i:Nat}{id:Int}{r:List Int}(hn:n<=8)(hx:RecOK x)(hr:x.Rows[i]?=some r)(hi:i<10000)(hacc:acc.length<=10000)
  (h:L1 x n (acc++[⟨id,Af9 r n⟩]) ((i+1:Nat):Int) φ):∀k,k<=n->L2 x n acc i id (Af9 r k) k φ:=by
 refine down ?_ ?_
 .apply L2_step;rw[if_neg (by omega),Aa4 (by omega)];exact⟨by omega,h⟩
 .intro k hk h;apply L2_step;rw[if_pos (by omega)];have e:Af9 r (k+1)=Af9 r k++[ofV (Anp r k)]:=by simp[Af9,wQ]
  rw[e]at h;have next:∀c:Int,c=(Anp r k:Int)->L3 x n acc i id (Af9 r k) k c φ:=by
   rintro _ rfl;apply L3_step;refine⟨_,q117_.spec _,by simp[Af9];omega,?_⟩;rw[Aa4 (by omega)];exact h
  refine⟨r,Aa8 hr,?_⟩
  split
  .rename_i hlt;have hlt:k<r.length:=by omega
   have hg:=zA hlt;refine⟨r[k],Aa8 hg,next _ ?_⟩;have:=hx.code r (zE hr) r[k] (zT hlt);unfold Anp;rw[hg];simp;omega
  .rename_i hlt;refine next _ ?_;unfold Anp;rw[zU (by omega)];rfl
theorem spec{x:drossref03_Recipe}{n:Nat}(hn:n<=8)(hx:RecOK x)(hr:x.Rows.length<=10000):C x n (Ajh x n):=by
 obtain⟨r,h1,h2⟩:=enter x n (fun r=>r=Ajh x n) (by
  refine⟨by omega,by simp;omega,by simp;omega,by simp;omega,?_⟩;have loop:∀i,i<=x.Rows.length->L1 x n ((x.Rows.zipIdx.take i).map fun p=>(⟨1+(p.2:Int)*(1+x.Gap%3),Af9 p.1 n⟩:api_Row)) i fun r=>r=Ajh x n:=by
   refine down ?_ ?_
   .apply L1_step;rw[if_neg (by omega),yY (l:=x.Rows.zipIdx) (by simp)];simp only[zC,wB,List.drop_zero];rfl
   .intro i hi h;apply L1_step;rw[if_pos (by omega)];have hg:=zA hi;generalize x.Rows[i]=row at hg;have hg2:x.Rows.zipIdx[i]?=some (row,i):=by rw[List.getElem?_zipIdx,hg];simp
    rw[yL,hg2]at h;have g:=hx.gap;have e0:Int.tmod x.Gap 3=x.Gap%3:=by rw[xH g.1]
    have hp:0<=(i:Int)*(1+x.Gap%3)/\(i:Int)*(1+x.Gap%3)<=30000:=by
     have h3:x.Gap%3=0∨x.Gap%3=1∨x.Gap%3=2:=by omega
     rcases h3 with h|h|h<;>rw[h]<;>omega
    rw[e0,Abb (x:=x.Gap%3) (by omega) (by omega),Abb (x:=1+x.Gap%3) (by omega) (by omega),Abb (x:=(i:Int)*(1+x.Gap%3)) (by omega) (by omega),Abb (x:=1+(i:Int)*(1+x.Gap%3)) (by omega) (by omega)];refine inner (r:=row) hn hx hg (by omega) (by simp;omega) ?_ 0 (yJ _);simpa using h
  have:=loop 0 (yJ _)
  simpa using this)
 rw[<-h1];exact h2
end q100_
def tabF(x:drossref03_Recipe)(most:Nat):api_Table×Bool:=if x.Rows.length<=most then(Ajh x (x.Attrs%6).toNat,true)else(⟨⟨#[]⟩,[],[]⟩,false)
theorem q77_.spec{x:drossref03_Recipe}{most:Nat}(hm:most<=10000)(hx:RecOK x):q77_.C x most (tabF x most):=by
 obtain⟨r,h1,h2⟩:=q77_.enter x most (fun r=>r=tabF x most) (by
  unfold tabF
  split
  .rw [if_neg (by omega)]
  .rw [if_pos (by omega)];have:=hx.at_;have e:IntKind.wrap .i64 (Int.tmod x.Attrs 6)=(((x.Attrs%6).toNat:Nat):Int):=by
    rw[xH this.1,Abb (by omega) (by omega)];omega
   rw[e]
   exact⟨_,q100_.spec (by omega) hx (by omega),rfl⟩)
 rw[<-h1];exact h2
theorem Bgu{x:drossref03_Recipe}{n:Nat}:TNum (Ajh x n):=by
 intro r hr v hv;simp only[Ajh]at hr;obtain⟨p,_,rfl⟩:=zL.1 hr;simp only[Af9]at hv;obtain⟨k,_,rfl⟩:=zL.1 hv;exact(Bmv _).2
theorem Bca{x:drossref03_Recipe}{n:Nat}(hn:n<=8):(Ajh x n).Attrs.length=n:=by simp[Ajh,Be0];omega
end Go.Own
