/- What the functions answer. No conditions. -/
import Derived.Test.YtcbhcnkfefbddaaGreatDoorTopMultivaluedLaw13
import Derived.Test.YtcbhcnkfefbddaaGreatDoorTopMultivaluedLaw12
import Derived.Test.YtcbhcnkfefbddaaGreatDoorTopMultivaluedLaw1
set_option linter.all false
open List renaming getElem?_eq_getElem->aA,mem_of_getElem?->aM,singleton_append->bo,length_map->bB,length_append->bL,nil_append->b3,length_take->b5,getElem_mem->cc,take_add_one->cz,getElem?_map->cx,append_assoc->cD,mem_map->cA,take_length->cT,cons_append->dR,length_drop->eb,all_eq_true->eW,mem_append->fx,pairwise_cons->fB,length_cons->gC,map_map->fR,mem_filter->gD,take_of_length_le->fW,getElem?_set_self->hb,length_singleton->hP,getElem?_set_ne->hQ,mem_cons->hc,take_set_of_le->ie,nodup_append->ig,any_eq_true->kf,length_set->jr,length_nil->mS,map_append->mi,range->nA
open Nat renaming lt_of_le_of_lt->aQ,pow_le_pow_right->a6,lt_of_lt_of_le->cu,le_refl->dn,or_lt_two_pow->gj,testBit_or->hF,pow_pos->hq,zero_le->iZ,two_pow_pos->lI
open Int renaming toNat_natCast->ba
open Bool renaming and_eq_true->c_,eq_iff_iff->du,false_eq_true->hR,or_eq_true->kH
namespace Go.aS
open Go.Sort
def il:ay->ay->Bool
 |[],[]=>false
 |[],_::_=>true
 |_::_,[]=>false
 |a::r,b::s=>if a=b then il r s else decide (a<b)
def K2:∀(x:ay),il x x=false
 |[]=>rfl
 |a::r=>by rw[il,if_pos rfl];exact K2 r
def Gp:∀{x y:ay},il x y=false->il y x=false->x=y
 |[],[],_,_=>rfl
 |[],_::_,h,_=>by cases h
 |_::_,[],_,h=>by cases h
 |a::r,b::s,h,k=>by
  simp only[il]at h k;by_cases e:a=b
  .subst e;rw[if_pos rfl]at h k;rw[Gp h k]
  .rw [if_neg e,decide_eq_false_iff_not]at h;rw[if_neg (Ne.symm e),decide_eq_false_iff_not]at k;omega
def LA:∀(x y z:ay),il x y=true->il y z=true->il x z=true
 |[],[],_,h,_=>by cases h
 |[],_::_,[],_,h=>by cases h
 |[],_::_,_::_,_,_=>rfl
 |_::_,[],_,h,_=>by cases h
 |_::_,_::_,[],_,h=>by cases h
 |a::r,b::s,c::t,h,k=>by
  simp only[il]at h k⊢;by_cases e:a=b
  .subst e;rw[if_pos rfl]at h;by_cases a5:a=c
   .rw [if_pos a5]at k⊢;exact LA _ _ _ h k
   .rw [if_neg a5]at k⊢;exact k
  .rw [if_neg e,decide_eq_true_eq]at h;by_cases a5:b=c
   .subst a5;rw[if_neg e,decide_eq_true_eq];exact h
   .rw [if_neg a5,decide_eq_true_eq]at k;rw[if_neg (by omega),decide_eq_true_eq];omega
def abV:SWO il:=by
 refine⟨K2,LA,λx y z h k=>?_⟩;cases e:il x z with
 |false=>rfl
 |true=>
  cases a5:il y x with
  |true=>rw[LA _ _ _ a5 e]at k;cases k
  |false=>
   have:=Gp h a5;subst this;rw[e]at k;cases k
def kU(l:aL):Prop:=l.Pairwise λa b=>il a b=true
def L5{x y:ay}(U:x.length<=1000)(aw:y.length<=1000):vy.C x y (decide (x=y)):=by
 obtain⟨r,I,aa⟩:=vy.bj x y (λr=>r=decide (x=y)) (by
  split
  .rename_i hl;have go:∀(p q:ay)(k:Nat),x.drop k=p->y.drop k=q->decide (p=q)=decide (x=y)->vy.aJ x y k λr=>r=decide (x=y):=by
    intro p
    induction p with
    |nil=>
     intro q k ah he h;have gz:=gd ah;have au:q=[]:=by rw[<-he];exact List.drop_eq_nil_iff.2 (by omega)
     apply vy.bE;rw[if_neg (by omega),<-h,au];simp
    |cons a p aN=>
     intro q k ah he h;have bU:=gl ah;obtain⟨b,q',rfl⟩:∃b q',q=b::q':=by
      cases q with
      |nil=>have:=gd he;omega
      |cons b q'=>exact⟨b,q',rfl⟩
     apply vy.bE;rw[if_pos (by omega)];refine⟨a,jW ah,b,jW he,?_⟩
     split
     .rename_i e;rw[dx (by omega)];refine aN q' (k+1) (e4 ah) (e4 he) ?_;rw[<-h,e];simp
     .rename_i e;rw[<-h];simp[e]
   exact go x y 0 rfl rfl rfl
  .rename_i hl
   exact(decide_eq_false λe=>hl (by rw[e])).symm)
 rw[<-I];exact aa
def h4:aL->aL
 |[]=>[]
 |[a]=>[a]
 |a::b::r=>if a=b then h4 (b::r)else a::h4 (b::r)
def FU:∀{l:aL}(y:ay),y∈h4 l↔y∈l
 |[],y=>by simp[h4]
 |[a],y=>by simp[h4]
 |a::b::r,y=>by
  simp only[h4]
  split
  .rename_i h;subst h;rw[FU];simp
  .rw [hc,FU];simp
def JR:∀{l:aL},l.Pairwise (λa b=>il b a=false)->kU (h4 l)
 |[],_=>by simp[h4,kU]
 |[a],_=>by simp[h4,kU]
 |a::b::r,h=>by
  have I:=fB.1 h;simp only[h4]
  split
  .exact JR I.2
  .rename_i cI;refine fB.2 ⟨λy aw=>?_,JR I.2⟩;have aw:=(FU y).1 aw;have dH:il a b=true:=by
    cases e:il a b with
    |true=>rfl
    |false=>exact absurd (Gp e (I.1 b (by simp))) cI
   rcases hc.1 aw with rfl|aw
   .exact dH
   .have aB:=(fB.1 I.2).1 y aw;cases e:il a y with
    |true=>rfl
    |false=>
     have akn:=I.1 y (by simp[aw]);have:=Gp e akn;subst this;rw[dH]at aB;cases aB
def Ql:∀(l:aL)(a b:ay),h4 (l++[a]++[b])=if a=b then h4 (l++[a])else h4 (l++[a])++[b]
 |[],a,b=>by
  simp only[b3,bo,h4]
  split<;>simp_all
 |[c],a,b=>by
  simp only[bo,dR,b3,h4]
  split<;>split<;>simp_all
 |c::d::r,a,b=>by
  have aN:=Ql (d::r) a b;simp only[dR,h4]at aN⊢;rw[aN]
  split<;>split<;>simp
def CH{l:aL}{m:Nat}{a:ay}(h:l[m]?=some a):l.take (m+1)=l.take m++[a]:=by
 rw[cz,h];rfl
def Qm{l:aL}{m:Nat}{a b:ay}(aC:l[m]?=some a)(ag:l[m+1]?=some b):h4 (l.take (m+2))=if a=b then h4 (l.take (m+1))else h4 (l.take (m+1))++[b]:=by
 have aT:l.take (m+2)=l.take m++[a]++[b]:=by rw[CH (m:=m+1) ag,CH aC]
 rw[aT,CH aC,Ql]
namespace Fa
def inner{l:aL}{o:Nat}{J:aL×Bool->Prop}(an:1<=o)(qM:o<l.length)(af:∀x∈l,x.length<=1000)(hl:l.length<4611686018427387904)(h:∀b,J (h4 l,b))(n:Nat):∀(s:aL)(k k2:Nat),l.length-o-k2<=n->1<=k2->o+k2<=l.length->s.length=l.length->k<=o+k2-1->s.take k=h4 (l.take (o+k2))->(∀i,o+k2-1<=i->s[i]?=l[i]?)->bm s k o (l.length-o) k2 J:=by
 have nd:∀(s:aL)(k k2:Nat),o+k2=l.length->s.length=l.length->k<=o+k2-1->s.take k=h4 (l.take (o+k2))->bm s k o (l.length-o) k2 J:=λs k k2 jz ae aj al=>by
  apply cU;refine⟨by omega,?_⟩;rw[if_neg (by rw[b5,eb];omega)];refine⟨by omega,⟨by omega,by omega⟩,by omega,by omega,by omega,by omega,⟨by omega,by omega,by omega⟩,?_⟩;rw[ba];have e:s.take k=h4 l:=by rw[al,fW (by omega)]
  rw[e];exact h _
 induction n with
 |zero=>intro s k k2 ao I jz ae aj al ah;exact nd s k k2 (by omega) ae aj al
 |succ n aN=>
  intro s k k2 ao I jz ae aj al ah;by_cases bU:o+k2<l.length
  .apply cU;refine⟨by omega,?_⟩;rw[if_pos (by rw[b5,eb];omega)];obtain⟨b,ag⟩:∃b,l[o+k2]?=some b:=⟨_,aA bU⟩
   obtain⟨a,aC⟩:∃a,l[o+k2-1]?=some a:=⟨_,aA (by omega)⟩
   have aT:(o:Int)+(k2:Int)=((o+k2:Nat):Int):=by omega
   have a5:aV ((k2:Int)-1)=((k2-1:Nat):Int):=cW _ _ (by omega) (by omega);have ez:(o:Int)+((k2-1:Nat):Int)=((o+k2-1:Nat):Int):=by omega
   have eK:aV ((k2:Int)+1)=((k2+1:Nat):Int):=cW _ _ (by omega) (by omega);have jk:aV ((k:Int)+1)=((k+1:Nat):Int):=cW _ _ (by omega) (by omega);rw[aT,a5,ez];have jL:=Qm (l:=l) (m:=o+k2-1) aC (by rw[show o+k2-1+1=o+k2 by omega];exact ag);rw[show o+k2-1+2=o+(k2+1) by omega,show o+k2-1+1=o+k2 by omega]at jL;refine⟨b,by rw[gP,ah _ (by omega)];exact ag,⟨by omega,by omega⟩,by omega,a,by rw[gP,ah _ (by omega)];exact aC,⟨by omega,by omega⟩,by omega,?_⟩;refine⟨_,L5 (af b (aM ag)) (af a (aM aC)),?_⟩;by_cases dH:b=a
   .rw [if_pos (decide_eq_true dH)];apply fp;rw[eK];rw[if_pos dH.symm]at jL;exact aN s k (k2+1) (by omega) (by omega) (by omega) ae (by omega) (by rw[al,jL]) (λi hi=>ah i (by omega))
   .rw [if_neg (by simpa using dH)];rw[if_neg (λh=>dH h.symm)]at jL;obtain⟨c,ad⟩:∃c,s[k]?=some c:=⟨_,aA (by omega)⟩
    refine⟨⟨by omega,by omega⟩,by omega,c,by rw[gP];exact ad,?_⟩;apply fp;rw[eK,jk];have N0:b7 s (k:Int) b=s.set k b:=by unfold b7;rw[ba]
    rw[N0];refine aN (s.set k b) (k+1) (k2+1) (by omega) (by omega) (by omega) (by rw[jr];exact ae) (by omega) ?_ (λi hi=>?_)
    .rw [jL,<-al,CH (a:=b) (by rw[hb (by omega)])];congr 1;rw[ie (dn k)]
    .rw [hQ (by omega)];exact ah i (by omega)
  .exact nd s k k2 (by omega) ae aj al
def outer{l:aL}{J:aL×Bool->Prop}(af:∀x∈l,x.length<=1000)(hl:l.length<4611686018427387904)(h:∀b,J (h4 l,b))(n:Nat):∀i,l.length-i<=n->1<=i->i<=l.length->h4 (l.take i)=l.take i->aJ l i J:=by
 induction n with
 |zero=>
  intro i ao I hi ad;apply bE;rw[if_neg (by omega)];have e:i=l.length:=by omega
  rw[e,cT]at ad;have:=h true
  rwa [ad]at this
 |succ n aN=>
  intro i ao I hi ad;by_cases bU:i<l.length
  .apply bE;rw[if_pos (by omega)];obtain⟨b,ag⟩:∃b,l[i]?=some b:=⟨_,aA bU⟩
   obtain⟨a,aC⟩:∃a,l[i-1]?=some a:=⟨_,aA (by omega)⟩
   have a5:aV ((i:Int)-1)=((i-1:Nat):Int):=cW _ _ (by omega) (by omega);have eK:aV ((i:Int)+1)=((i+1:Nat):Int):=cW _ _ (by omega) (by omega);rw[a5,eK];have jL:=Qm (l:=l) (m:=i-1) aC (by rw[show i-1+1=i by omega];exact ag);rw[show i-1+2=i+1 by omega,show i-1+1=i by omega]at jL;refine⟨b,by rw[gP];exact ag,a,by rw[gP];exact aC,?_⟩;refine⟨_,L5 (af b (aM ag)) (af a (aM aC)),?_⟩;by_cases dH:b=a
   .rw [if_pos (decide_eq_true dH)];rw[if_pos dH.symm]at jL;refine⟨by omega,⟨by omega,by omega⟩,?_⟩;rw[ba];exact inner (o:=i) I bU af hl h (l.length-i-1) l i 1 (dn _) (dn _) (by omega) rfl (by omega) (by rw[jL,ad]) (λ_ _=>rfl)
   .rw [if_neg (by simpa using dH)];rw[if_neg (λh=>dH h.symm)]at jL;exact aN (i+1) (by omega) (by omega) (by omega) (by rw[jL,ad,CH ag])
  .apply bE;rw[if_neg (by omega)];have e:i=l.length:=by omega
   rw[e,cT]at ad;have:=h true
   rwa [ad]at this
def bp{l:aL}(af:∀x∈l,x.length<=1000)(hl:l.length<4611686018427387904):∃b,C l (h4 l,b):=by
 obtain⟨r,⟨b,rfl⟩,aa⟩:=bj l (λr=>∃b,r=(h4 l,b)) (by
  split
  .rename_i h;refine⟨true,?_⟩
   match l,h with
   |[],_=>rfl
   |[a],_=>rfl
   |_::_::_,h=>simp at h;omega
  .rename_i h;have:1<=l.length:=by omega
   exact outer af hl (λb=>⟨b,rfl⟩) (l.length-1) 1 (by omega) (by omega) this (by
    obtain⟨a,r,rfl⟩:∃a r,l=a::r:=by cases l with
     |nil=>simp at this
     |cons a r=>exact⟨a,r,rfl⟩
    rfl))
 exact⟨b,aa⟩
end Fa
def xn(x y:Int):Bool:=decide (lB x<lB y)
def adV:Go.Sort.SWO xn where
 irrefl:=λx=>by unfold xn;simp
 trans:=λx y z I aa=>by unfold xn at *;simp only[decide_eq_true_eq]at *;omega
 ntrans:=λx y z I aa=>by unfold xn at *;simp only[decide_eq_false_iff_not]at *;omega
def vA.bp{x y:Int}:vA.C x y (nY x y):=by
 obtain⟨f1,c5,b9⟩:=zt.bj x (λr=>r=false) (by simp);obtain⟨f2,eo,k2⟩:=zt.bj y (λr=>r=false) (by simp);subst c5 eo;obtain⟨r,I,aa⟩:=vA.bj x y (λr=>r=nY x y) (by
  refine⟨_,b9,_,k2,?_⟩;rw[if_neg (by decide),if_neg (by decide)];unfold nY
  split
  .rfl
  .split<;>rfl)
 rw[<-I];exact aa
def BU.bp{x y:Int}:BU.C x y (nY x y):=by
 obtain⟨f1,c5,b9⟩:=Fj.bj x (λr=>r=false) (by simp);obtain⟨f2,eo,k2⟩:=Fj.bj y (λr=>r=false) (by simp);subst c5 eo;obtain⟨r,I,aa⟩:=BU.bj x y (λr=>r=nY x y) (by
  refine⟨_,b9,_,k2,?_⟩;rw[if_neg (by decide),if_neg (by decide)];unfold nY
  split
  .rfl
  .split<;>rfl)
 rw[<-I];exact aa
def vv.two{a b:Int}:vv.C [a,b] (if a=0 then b else a):=by
 obtain⟨r,I,aa⟩:=vv.bj [a,b] (λr=>r=if a=0 then b else a) (by
  apply vv.bE;rw[if_pos (by simp)];refine⟨a,rfl,?_⟩;by_cases aC:a=0
  .rw [if_pos aC];apply vv.bE;have e:aV ((0:Int)+1)=1:=by decide
   rw[e,if_pos (by simp)];refine⟨b,rfl,?_⟩;by_cases ag:b=0
   .rw [if_pos ag];apply vv.bE;have e:aV ((1:Int)+1)=2:=by decide
    rw[e,if_neg (by simp),if_pos aC,ag]
   .rw [if_neg ag,if_pos aC]
  .rw [if_neg aC,if_neg aC])
 rw[<-I];exact aa
def ade:wx dz xn vB.C:=λx y U aw=>by
 obtain⟨r,I,aa⟩:=vB.bj x y (λr=>r<0↔xn x y=true) (by
  refine⟨_,xB.bp U,_,xB.bp aw,_,vA.bp,_,BU.bp,_,vv.two,?_⟩;unfold xn;rw[decide_eq_true_eq,adS U aw];have ex:=U.eq;have amd:=aw.eq;unfold nY;generalize og (bh x)=s at *;generalize og (bh y)=t at *;by_cases I:(s:Int)<t
  .rw [if_pos I,if_neg (by decide)];omega
  .rw [if_neg I];by_cases aa:(t:Int)<s
   .rw [if_pos aa,if_neg (by decide)];omega
   .rw [if_neg aa,if_pos rfl]
    split
    .omega
    .split<;>omega)
 exact⟨r,aa,I⟩
def Qk:∀(l:ay)(a b:Int),iw (l++[a]++[b])=if a=b then iw (l++[a])else iw (l++[a])++[b]
 |[],a,b=>by
  simp only[b3,bo,iw]
  split<;>simp_all
 |[c],a,b=>by
  simp only[bo,dR,b3,iw]
  split<;>split<;>simp_all
 |c::d::r,a,b=>by
  have aN:=Qk (d::r) a b;simp only[dR,iw]at aN⊢;rw[aN]
  split<;>split<;>simp
def CQ{l:ay}{m:Nat}{a:Int}(h:l[m]?=some a):l.take (m+1)=l.take m++[a]:=by
 rw[cz,h];rfl
def QB{l:ay}{m:Nat}{a b:Int}(aC:l[m]?=some a)(ag:l[m+1]?=some b):iw (l.take (m+2))=if a=b then iw (l.take (m+1))else iw (l.take (m+1))++[b]:=by
 have aT:l.take (m+2)=l.take m++[a]++[b]:=by rw[CQ (m:=m+1) ag,CQ aC]
 rw[aT,CQ aC,Qk]
namespace Fg
def inner{l:ay}{o:Nat}{J:ay×Bool->Prop}(an:1<=o)(qM:o<l.length)(hl:l.length<4611686018427387904)(h:∀b,J (iw l,b))(n:Nat):∀(s:ay)(k k2:Nat),l.length-o-k2<=n->1<=k2->o+k2<=l.length->s.length=l.length->k<=o+k2-1->s.take k=iw (l.take (o+k2))->(∀i,o+k2-1<=i->s[i]?=l[i]?)->bm s k o (l.length-o) k2 J:=by
 have nd:∀(s:ay)(k k2:Nat),o+k2=l.length->s.length=l.length->k<=o+k2-1->s.take k=iw (l.take (o+k2))->bm s k o (l.length-o) k2 J:=λs k k2 jz ae aj al=>by
  apply cU;refine⟨by omega,?_⟩;rw[if_neg (by rw[b5,eb];omega)];refine⟨by omega,⟨by omega,by omega⟩,by omega,by omega,by omega,by omega,⟨by omega,by omega,by omega⟩,?_⟩;rw[ba];have e:s.take k=iw l:=by rw[al,fW (by omega)]
  rw[e];exact h _
 induction n with
 |zero=>intro s k k2 ao I jz ae aj al ah;exact nd s k k2 (by omega) ae aj al
 |succ n aN=>
  intro s k k2 ao I jz ae aj al ah;by_cases bU:o+k2<l.length
  .apply cU;refine⟨by omega,?_⟩;rw[if_pos (by rw[b5,eb];omega)];obtain⟨b,ag⟩:∃b,l[o+k2]?=some b:=⟨_,aA bU⟩
   obtain⟨a,aC⟩:∃a,l[o+k2-1]?=some a:=⟨_,aA (by omega)⟩
   have aT:(o:Int)+(k2:Int)=((o+k2:Nat):Int):=by omega
   have a5:aV ((k2:Int)-1)=((k2-1:Nat):Int):=vJ _ _ (by omega) (by omega);have ez:(o:Int)+((k2-1:Nat):Int)=((o+k2-1:Nat):Int):=by omega
   have eK:aV ((k2:Int)+1)=((k2+1:Nat):Int):=vJ _ _ (by omega) (by omega);have jk:aV ((k:Int)+1)=((k+1:Nat):Int):=vJ _ _ (by omega) (by omega);rw[aT,a5,ez];have jL:=QB (l:=l) (m:=o+k2-1) aC (by rw[show o+k2-1+1=o+k2 by omega];exact ag);rw[show o+k2-1+2=o+(k2+1) by omega,show o+k2-1+1=o+k2 by omega]at jL;refine⟨b,by rw[gP,ah _ (by omega)];exact ag,⟨by omega,by omega⟩,by omega,a,by rw[gP,ah _ (by omega)];exact aC,⟨by omega,by omega⟩,by omega,?_⟩;by_cases dH:b=a
   .rw [if_pos dH];apply fp;rw[eK];rw[if_pos dH.symm]at jL;exact aN s k (k2+1) (by omega) (by omega) (by omega) ae (by omega) (by rw[al,jL]) (λi hi=>ah i (by omega))
   .rw [if_neg dH];rw[if_neg (λh=>dH h.symm)]at jL;obtain⟨c,ad⟩:∃c,s[k]?=some c:=⟨_,aA (by omega)⟩
    refine⟨⟨by omega,by omega⟩,by omega,c,by rw[gP];exact ad,?_⟩;apply fp;rw[eK,jk];have N0:b7 s (k:Int) b=s.set k b:=by unfold b7;rw[ba]
    rw[N0];refine aN (s.set k b) (k+1) (k2+1) (by omega) (by omega) (by omega) (by rw[jr];exact ae) (by omega) ?_ (λi hi=>?_)
    .rw [jL,<-al,CQ (a:=b) (by rw[hb (by omega)])];congr 1;rw[ie (dn k)]
    .rw [hQ (by omega)];exact ah i (by omega)
  .exact nd s k k2 (by omega) ae aj al
def outer{l:ay}{J:ay×Bool->Prop}(hl:l.length<4611686018427387904)(h:∀b,J (iw l,b))(n:Nat):∀i,l.length-i<=n->1<=i->i<=l.length->iw (l.take i)=l.take i->aJ l i J:=by
 induction n with
 |zero=>
  intro i ao I hi ad;apply bE;rw[if_neg (by omega)];have e:i=l.length:=by omega
  rw[e,cT]at ad;have:=h true
  rwa [ad]at this
 |succ n aN=>
  intro i ao I hi ad;by_cases bU:i<l.length
  .apply bE;rw[if_pos (by omega)];obtain⟨b,ag⟩:∃b,l[i]?=some b:=⟨_,aA bU⟩
   obtain⟨a,aC⟩:∃a,l[i-1]?=some a:=⟨_,aA (by omega)⟩
   have a5:aV ((i:Int)-1)=((i-1:Nat):Int):=vJ _ _ (by omega) (by omega);have eK:aV ((i:Int)+1)=((i+1:Nat):Int):=vJ _ _ (by omega) (by omega);rw[a5,eK];have jL:=QB (l:=l) (m:=i-1) aC (by rw[show i-1+1=i by omega];exact ag);rw[show i-1+2=i+1 by omega,show i-1+1=i by omega]at jL;refine⟨b,by rw[gP];exact ag,a,by rw[gP];exact aC,?_⟩;by_cases dH:b=a
   .rw [if_pos dH];rw[if_pos dH.symm]at jL;refine⟨by omega,⟨by omega,by omega⟩,?_⟩;rw[ba];exact inner (o:=i) I bU hl h (l.length-i-1) l i 1 (dn _) (dn _) (by omega) rfl (by omega) (by rw[jL,ad]) (λ_ _=>rfl)
   .rw [if_neg dH];rw[if_neg (λh=>dH h.symm)]at jL;exact aN (i+1) (by omega) (by omega) (by omega) (by rw[jL,ad,CQ ag])
  .apply bE;rw[if_neg (by omega)];have e:i=l.length:=by omega
   rw[e,cT]at ad;have:=h true
   rwa [ad]at this
def bp{l:ay}(hl:l.length<4611686018427387904):∃b,C l (iw l,b):=by
 obtain⟨r,⟨b,rfl⟩,aa⟩:=bj l (λr=>∃b,r=(iw l,b)) (by
  split
  .rename_i h;refine⟨true,?_⟩
   match l,h with
   |[],_=>rfl
   |[a],_=>rfl
   |_::_::_,h=>simp at h;omega
  .rename_i h;have:1<=l.length:=by omega
   exact outer hl (λb=>⟨b,rfl⟩) (l.length-1) 1 (by omega) (by omega) this (by
    obtain⟨a,r,rfl⟩:∃a r,l=a::r:=by cases l with
     |nil=>simp at this
     |cons a r=>exact⟨a,r,rfl⟩
    rfl))
 exact⟨b,aa⟩
end Fg
def ed(R:List Nat):ay:=R.map λ(m:Nat)=>(m:Int)
def nJ{R:List Nat}:(ed R).length=R.length:=by simp[ed]
def Ur{R:List Nat}{x:Nat}:(x:Int)∈ed R↔x∈R:=by
 unfold ed;rw[cA];constructor
 .rintro ⟨a,aC,he⟩;obtain rfl:a=x:=by omega
  exact aC
 .intro h;exact⟨x,h,rfl⟩
def Al{R:List Nat}{i r:Nat}(h:R[i]?=some r):a_ (ed R) (i:Int)=some (r:Int):=hG (by simp[ed,h])
def gV(d:bC):Nat×Nat:=(bh d.bX,bh d.bZ)
def en(d:br):Nat×Nat:=(bh d.bX,bh d.bZ)
def hg{a:Nat}(h:a<2^32):a<2^top .u32:=by simpa[top]using h
def Uy{a b:Nat}{l:Int}(aC:a<2^32)(ag:b<2^32)(hl:dz l):dW .u32 (jF .u32 (a:Int) (b:Int)) l=(((a ^^^ b) &&& bh l:Nat):Int):=by
 rw[S2 (hg aC) (hg ag)]
 conv=>lhs;rw[hl.eq]
 exact sC (hg (Nat.xor_lt_two_pow aC ag)) hl.top
def G2{a b:Nat}{l:Int}(aC:a<2^32)(ag:b<2^32)(hl:dz l):dW .u32 (jF .u32 (a:Int) (b:Int)) l=0↔gf (bh l) a b:=by
 rw[Uy aC ag hl,<-ZF];omega
def akU{l r:Int}(hl:dz l)(hr:dz r){a b:Nat}(aC:a<2^32)(ag:b<2^32):eZ .u32 (dW .u32 (a:Int) (eZ .u32 l r)) (fK .u32 (b:Int) (eZ .u32 l r))=((gr (bh l,bh r) a b:Nat):Int):=by
 have e:eZ .u32 l r=((bh l ||| bh r:Nat):Int):=by
  conv=>lhs;rw[hl.eq,hr.eq]
  exact p9 hl.top hr.top
 have I:bh l ||| bh r<2^32:=gj hl.lt hr.lt
 rw[e,sC (hg aC) (hg I),sz (hg ag) (hg I),p9 (hg (aQ Nat.and_le_left aC)) (hg (aQ oq ag))];rfl
def C3{R:List Nat}{k a:Nat}(h:R[k]?=some a){q:Nat}:q∈R.take (k+1)↔q∈R.take k∨q=a:=by
 rw[cz,h,fx];simp
def GX(d:Nat×Nat)(R:List Nat):Prop:=∀r s,r∈R->s∈R->gf d.1 r s->gf d.2 r s
def LZ(m:Nat×Nat)(R:List Nat):Prop:=∀r s,r∈R->s∈R->gf m.1 r s->gr m r s∈R
structure UL(m:Nat×Nat)(uC:List Nat->Prop):Prop where
 lt:∀R,uC R->∀r∈R,r<2^32
 len:∀R,uC R->R.length<=64
 add:∀R r s,uC R->r∈R->s∈R->gf m.1 r s->gr m r s ∉ R->uC (R++[gr m r s])
def nG(fds:List (Nat×Nat))(bs:List Nat)(rest live:Nat)(R:List Nat):Prop:=R.Nodup/\pk fds bs rest live λu=>u∈R
section
variable{fds aR:List (Nat×Nat)}{bs:List Nat}{rest live:Nat}
def nG.lt{R:List Nat}(h:nG fds bs rest live R){n:Nat}(hr:rest<2^n){r:Nat}(hm:r∈R):r<2^n:=
 lN.2 λi hi=>lN.1 hr i (h.2.r9 i (h.2.sub r hm i hi))
def nG.len{R:List Nat}(h:nG fds bs rest live R)(hr:rest<2^6):R.length<=64:=Gy h.1 λ_ U=>h.lt hr U
def nG.ahR(af:hI rest bs)(hf:wK (qh fds aR) bs)(hr:rest<2^6){m:Nat×Nat}(hm:m∈aR):UL m (nG fds bs rest live) where
 lt R h r n9:=cu (h.lt hr n9) (by decide)
 len R h:=h.len hr
 add R r s h n9 ae aC ao:=by
  refine⟨?_,?_⟩
  .rw [ig];exact⟨h.1,by simp,λx U y aw=>by simp only[List.mem_singleton]at aw;subst aw;rintro rfl;exact ao U⟩
  .have:=h.2.mv af (hf m (List.mem_append_left _ hm)) n9 ae aC;have e:(λu=>u∈R++[gr m r s])=λu=>u∈R∨u=gr m r s:=by funext u;simp
   rw[e];exact this
end
def Ax{n:Nat}(ao:n<=16):2^n<=65536/\0<2^n:=⟨a6 (n:=2) (by omega) ao,hq (by omega)⟩
def Li{n:Nat}(ao:n<=16):IntKind.wrap .u32 (jo .u32 1 (n:Int)-1)=((2^n-1:Nat):Int):=by
 have af:=Ax ao;have e:jo .u32 1 (n:Int)=((2^n:Nat):Int):=C0 (k:=.u32) (by simp only[top];omega);rw[e,show(((2^n:Nat):Int)-1)=((2^n-1:Nat):Int) by omega];exact nD (k:=.u32) (by simp only[top];omega)
def Z4{n:Nat}(ao:n<=16):wE n=2^n-1:=by unfold wE;rw[Nat.min_eq_left (by omega)]
open Go.Sort
section
variable{p:Int->Prop}{lt:Int->Int->Bool}(cP:wx p lt vB.C)(cR:SWO lt)
include cP cR
def BM.M6{l:ay}(hl:l.length<=12)(af:∀x∈l,p x):∃r,BM.C l r/\r.Perm l/\r.Pairwise (λa b=>lt b a=false):=by
 have fO:sS l.toArray:=by unfold sS;simp;omega
 have ajM:Ag p l.toArray:=λi hi=>by
  have hi':i<l.length:=by simpa using hi
  rw[getElem!_pos l.toArray i hi];exact af _ (by simp)
 obtain⟨r,⟨R,rfl,I,aa⟩,aB⟩:=BM.bj l (λr=>∃R:Array Int,r=R.toList/\PermIn 0 l.length l.toArray R/\SortedIn lt 0 l.length R) (by
  have e:IntKind.wrap .u64 (l.length:Int)=(l.length:Int):=by
   rw[show(IntKind.wrap .u64 (l.length:Int))=(l.length:Int)%18446744073709551616 from by simp[IntKind.wrap,IntKind.bits,IntKind.signed]];omega
  rw[e];obtain⟨s,c,_,_⟩:=tC.bp (x:=l.length) (by omega);refine⟨_,c,?_⟩;obtain⟨r,⟨R,rfl,b_,cM⟩,ck⟩:=I9.bj 0 (l.length:Int) s l (λr=>∃R:Array Int,r=R.toList/\PermIn 0 l.length l.toArray R/\SortedIn lt 0 l.length R) (by
   apply I9.bE;rw[vJ ((l.length:Int)-0) l.length (by omega) (by omega),if_pos (by omega)];have hi:=insertionSort_holds (lt:=lt) cR l.toArray 0 l.length (iZ _) (by simp);have ad:=Fb.bp cP (a:=0) (b:=l.length) (d:=l.toArray) (iZ _) (by simp) ajM fO
   exact⟨_,ad,_,rfl,hi.1,hi.2⟩)
  exact⟨_,ck,R,rfl,b_,cM⟩)
 refine⟨_,aB,?_,?_⟩
 .have:=I.2.2;have aG:R.size=l.length:=by simpa using I.1
  have aT:(R.extract 0 l.length).toList=R.toList:=by
   rw[<-aG,Array.extract_size]
  have a5:(l.toArray.extract 0 l.length).toList=l:=by simp
  rwa [aT,a5]at this
 .have aG:R.size=l.length:=by simpa using I.1
  rw[List.pairwise_iff_getElem];intro i j hi aH iT;have hi':i<R.size:=by simpa using hi
  have yY:j<R.size:=by simpa using aH
  have:=aa i j (by omega) iT (by omega);rw[getElem!_pos R i hi',getElem!_pos R j yY]at this;simpa using this
end
def Fq.M6{l:ay}(hl:l.length<=12)(hu:pj l):Fq.C l (qY l):=by
 obtain⟨r,I,aa⟩:=Fq.bj l (λr=>r=qY l) (by
  obtain⟨s,c,af,aC⟩:=BM.M6 ade adV (l:=l) hl hu;have hlen:=af.length_eq;obtain⟨b,ck⟩:=Fg.bp (l:=s) (by omega);refine⟨by omega,s,c,_,ck,?_⟩;have tr:pj s:=λx U=>hu x (af.mem_iff.1 U);refine ad3 hu (JQ tr (aC.imp λh=>?_)) λy=>by rw[FT,af.mem_iff]
  unfold xn at h;simp only[decide_eq_false_iff_not]at h
  omega)
 rw[<-I];exact aa
def acP{l r:Int}(hl:dz l)(hr:dz r){b:Nat}(ag:b<2^32):o3 l r (b:Int)=hS (bh l,bh r) b:=by
 have aT:dW .u32 (b:Int) l=((b &&& bh l:Nat):Int):=by
  conv=>lhs;rw[hl.eq]
  exact sC (hg ag) hl.top
 have a5:dW .u32 (b:Int) r=((b &&& bh r:Nat):Int):=by
  conv=>lhs;rw[hr.eq]
  exact sC (hg ag) hr.top
 have ez:fK .u32 (b:Int) r=((bF b (bh r):Nat):Int):=by
  conv=>lhs;rw[hr.eq]
  exact sz (hg ag) hr.top
 have z:∀x:Nat,(((x:Nat):Int)==0)=decide (x=0):=λx=>by
  rw[du,beq_iff_eq,decide_eq_true_eq];omega
 have aI:∀x:Nat,(((x:Nat):Int)!=0)=decide (x≠0):=λx=>by
  rw[du,bne_iff_ne,decide_eq_true_eq];omega
 unfold o3 hS;rw[aT,a5,ez,z,aI,aI]
def KD{m:Int×Int}(hl:dz m.1)(hr:dz m.2):∀(S P N:List Nat)(gg:Bool),(∀b∈S,b<2^32)->P.length+S.length+N.length+S.length<=1000000 ->
  sI m.1 m.2 S.length P.length (ed (P++S++N),gg)=some (ed (P++S.map (λb=>if hS (bh m.1,bh m.2) b=true then b &&& bh m.2 else b)++(N++(S.filter (hS (bh m.1,bh m.2))).map λb=>bF b (bh m.2))),gg || S.any (hS (bh m.1,bh m.2)))
 |[],P,N,gg,_,_=>by simp[sI]
 |b::S,P,N,gg,cR,hlen=>by
  have ag:=cR b (by simp);simp only[gC]at hlen;have lx:(ed (P++(b::S)++N))[P.length]?=some (b:Int):=by
   unfold ed;rw[cx,cD,List.getElem?_append_right (dn _)];simp
  simp only[gC,sI,lx,acP hl hr ag];cases ae:hS (bh m.1,bh m.2) b with
  |false=>
   simp only[hR,if_false];have:=KD hl hr S (P++[b]) N gg (λc ad=>cR c (by simp[ad])) (by simp;omega);simp only[bL,hP,cD,bo]at this⊢;rw[this];simp[ae]
  |true=>
   have a5:dW .u32 (b:Int) m.2=((b &&& bh m.2:Nat):Int):=by
    conv=>lhs;rw[hr.eq]
    exact sC (hg ag) hr.top
   have ez:fK .u32 (b:Int) m.2=((bF b (bh m.2):Nat):Int):=by
    conv=>lhs;rw[hr.eq]
    exact sz (hg ag) hr.top
   simp only[if_true];rw[if_pos (by rw[nJ];simp;omega),a5,ez];have eJ:(ed (P++(b::S)++N)).set P.length ((b &&& bh m.2:Nat):Int)++[((bF b (bh m.2):Nat):Int)]=ed ((P++[b &&& bh m.2])++S++(N++[bF b (bh m.2)])):=by
    unfold ed;simp
   rw[eJ];have:=KD hl hr S (P++[b &&& bh m.2]) (N++[bF b (bh m.2)]) true (λc ad=>cR c (by simp[ad])) (by simp;omega);simp only[bL,hP,cD,bo]at this⊢;rw[this];simp[ae]
def hI.lt{rest n:Nat}{bs:List Nat}(h:hI rest bs)(hr:rest<2^n){b:Nat}(ag:b∈bs):b<2^n:=lN.2 λi hi=>lN.1 hr i ((h.all i).2 ⟨b,ag,hi⟩)
def TB{rest:Nat}(hr:rest<2^32):∀{mv:List (Int×Int)},(∀m∈mv,dz m.1/\dz m.2)->∀{L:List Nat}(gg:Bool),hI rest L ->
  uy mv (ed L,gg)=some (ed (mq (mv.map λm=>(bh m.1,bh m.2)) L),gg || decide (L.length<(mq (mv.map λm=>(bh m.1,bh m.2)) L).length))
 |[],_,L,gg,_=>by simp[uy,mq]
 |m::mv,hm,L,gg,af=>by
  have hlen:=af.len hr;have I:=KD (m:=m) (hm m (by simp)).1 (hm m (by simp)).2 L [] [] gg (λb ag=>af.lt hr ag) (by simp;omega);simp only[b3,List.append_nil,mS]at I;have aa:=TB hr (λk4 da=>hm k4 (List.mem_cons_of_mem _ da)) (L:=lK (bh m.1,bh m.2) L) (gg || L.any (hS (bh m.1,bh m.2))) (af.split _);simp only[uy,nJ];rw[if_pos (by omega),I];show uy mv (ed (lK (bh m.1,bh m.2) L),_)=_;rw[aa];simp only[List.map_cons,mq,aE,Prod.mk.injEq,true_and];have aB:=J2 (m:=(bh m.1,bh m.2)) (bs:=L);have aW:=Gk (mv:=mv.map λm=>(bh m.1,bh m.2)) (bs:=lK (bh m.1,bh m.2) L);rw[Bool.or_assoc];congr 1;rw[du,kH,decide_eq_true_eq,decide_eq_true_eq];constructor
  .rintro (h|h)
   .obtain ⟨b,ag,ae⟩:=kf.1 h;have:0<(L.filter (hS (bh m.1,bh m.2))).length:=List.length_pos_of_mem (gD.2 ⟨ag,ae⟩);omega
   .omega
  .intro h;by_cases aO:(L.filter (hS (bh m.1,bh m.2))).length=0
   .right;omega
   .left;obtain⟨b,ag⟩:=List.exists_mem_of_length_pos (Nat.pos_of_ne_zero aO);obtain⟨ag,ae⟩:=gD.1 ag;exact kf.2 ⟨b,ag,ae⟩
def RR{rest:Nat}(hr:rest<2^32){mv:List (Int×Int)}(hm:∀m∈mv,dz m.1/\dz m.2):∀{k:Nat}{L:List Nat},hI rest L->32<k+L.length->uq mv k (ed L)=some (ed (sH (mv.map λm=>(bh m.1,bh m.2)) k L))
 |0,L,af,aj=>absurd (af.len hr) (by omega)
 |k+1,L,af,aj=>by
  have I:=Gk (mv:=mv.map λm=>(bh m.1,bh m.2)) (bs:=L);simp only[uq,TB hr hm false af,sH,Bool.false_or,decide_eq_true_eq];by_cases he:(mq (mv.map λm=>(bh m.1,bh m.2)) L).length=L.length
  .rw [if_pos he,if_neg (by omega)]
  .rw [if_neg he,if_pos (by omega)];exact RR hr hm af.pass (by omega)
def aat{n x:Nat}(ao:n<=16)(U:x<2^32):ur (n:Int) (x:Int)=ed (yc (bF (2^n-1) x)):=by
 have I:=Li ao;have aa:2^n-1<2^32:=cu (Nat.sub_lt (hq (by omega)) (by omega)) (a6 (by omega) (by omega));have e:uz (n:Int) (x:Int)=((bF (2^n-1) x:Nat):Int):=by
  unfold uz;rw[I];exact sz (hg aa) (hg U)
 unfold ur yc;rw[e];by_cases aO:bF (2^n-1) x=0
 .rw [if_pos aO,if_neg (by simp[aO])];rfl
 .rw [if_neg aO,if_pos (by simp;omega)];rfl
def acJ{E:Env}{f:Nat}{p:List D->Option (D×List D)}{q:List D->Ask}{az:List D}{r:D}{outs:List D}(I:E.kG f=some p)(aa:p az=none)(aB:E.hand f=some q)(aW:∃N,∀n,N<=n->fz (gR E n) (q az)=some (r,outs)):bR E f az r outs:=by
 obtain⟨N,eL⟩:=aW;refine⟨N+1,λm hm=>?_⟩;obtain⟨k,rfl⟩:∃k,m=k+1:=⟨m-1,by omega⟩
 simp only[gR,I,aa,aB];exact eL k (by omega)
def AJ(mv:List (Nat×Nat))(rest:Nat):List Nat:=sH mv 40 (yc rest)
def sn.bp{n x:Nat}{mv:List br}(ajr:n<=6)(U:x<2^32)(hm:rq mv)(hlen:mv.length<1000000):sn.C n mv x (qY (ed (AJ (mv.map en) (bF (2^n-1) x)))):=by
 have ao:n<=16:=by omega
 have aa:2^n-1<2^32:=cu (Nat.sub_lt (hq (by omega)) (by omega)) (a6 (by omega) (by omega));have ajX:bF (2^n-1) x<2^6:=by
  have c7:2^n<=2^6:=a6 (by decide) ajr;have aO:=lI n;exact aQ oq (by omega)
 have tn:bF (2^n-1) x<2^32:=aQ oq aa
 let By:List (Int×Int):=mv.map λd=>(d.bX,d.bZ)
 have ajo:By.map (λm=>(bh m.1,bh m.2))=mv.map en:=by simp only[By,fR];rfl
 have aiK:mv.map cZ=By.map dY:=by simp only[By,fR];rfl
 have hr:uq By 40 (ur n x)=some (ed (AJ (mv.map en) (bF (2^n-1) x))):=by
  rw[aat ao U,RR tn (by intro m e8;obtain⟨d,ah,rfl⟩:=cA.1 e8;exact hm d ah) Ga (by omega),ajo];rfl
 have af:hI (bF (2^n-1) x) (AJ (mv.map en) (bF (2^n-1) x)):=(KN tn Ga (by omega)).1;have ajH:=Fq.M6 (l:=ed (AJ (mv.map en) (bF (2^n-1) x))) (by have:=af.len ajX;rw[nJ];omega) (by
  intro y aw;obtain⟨b,ag,rfl⟩:=cA.1 aw
  exact dz.of (af.lt tn ag))
 obtain⟨N,eL⟩:=ajH;refine acJ (p:=λ_=>none) (q:=zN g6.Xd) (by kernel_rfl) rfl (by kernel_rfl) ⟨N,λm e8=>?_⟩;simp only[zN,aiK,R_];rw[if_pos ⟨by omega,by simp only[By,bB];exact hlen⟩,hr];simp only[fz];have:gR env m g6.Xd [.sl ((ed (AJ (mv.map en) (bF (2^n-1) x))).map bM)]=some (.sl ((qY (ed (AJ (mv.map en) (bF (2^n-1) x)))).map bM),[]):=eL m e8;rw[this];rfl
def wD(d:bC):List br:=(fb (bh d.bZ)).map λ(a:Nat)=>⟨d.bX,((2^a:Nat):Int)⟩
def allI(fds:List bC)(aR:List br):List br:=aR++fds.flatMap wD
def aaW{d:bC}:(wD d).length<=32:=by unfold wD;rw[bB];exact xT
def qZ.bp{fds:List bC}{aR:List br}(hf:po fds)(I:fds.length<=64)(aa:aR.length<=64):qZ.C fds aR (allI fds aR):=by
 obtain⟨r,aT,a5⟩:=qZ.bj fds aR (λr=>r=allI fds aR) (by
  refine⟨by omega,?_⟩;have go:∀(l:List bC)(i:Nat)(acc:List br),fds.drop i=l->acc.length<=64+32*i->acc++l.flatMap wD=allI fds aR->qZ.aJ fds acc (i:Int) (λr=>r=allI fds aR):=by
   intro l
   induction l with
   |nil=>
    intro i acc ah hl h;have:=gd ah;apply qZ.bE;rw[if_neg (by omega)];simpa using h
   |cons d l aN=>
    intro i acc ah hl h;have bU:=gl ah;have oM:=hf d (aM (eO ah));apply qZ.bE;rw[if_pos (by omega)];have eE:=sh.bp oM.2.lt;rw[<-oM.2.eq]at eE;refine⟨d,jW ah,_,eE,?_⟩;have jI:=xT (n:=bh d.bZ);have inner:∀(t:List Nat)(k:Nat)(acc:List br),(fb (bh d.bZ)).drop k=t->k<=(fb (bh d.bZ)).length->acc.length<=64+32*i+k->acc++(t.map λ(a:Nat)=>(⟨d.bX,((2^a:Nat):Int)⟩:br))++l.flatMap wD=allI fds aR->qZ.bm fds acc d (i:Int) ((fb (bh d.bZ)).map λ(i:Nat)=>(i:Int)) (k:Int) (λr=>r=allI fds aR):=by
     intro t
     induction t with
     |nil=>
      intro k acc aj va En aa;have:=gd aj;apply qZ.cU;rw[if_neg (by simp;omega),dx (by omega)];exact aN (i+1) acc (e4 ah) (by omega) (by simpa using aa)
     |cons a t xi=>
      intro k acc aj va En aa;have Wo:=gl aj;have aC:=eO aj;have D9:a<32:=lN.1 oM.2.lt a ((oj oM.2.lt).1 (aM aC));apply qZ.cU;rw[if_pos (by simp;omega)];refine⟨(a:Int),hG (by simp[aC]),by omega,by omega,?_⟩;rw[dx (by omega),C0 (k:=.u32) (by simpa[top]using D9)];exact xi (k+1) _ (e4 aj) (by omega) (by simp;omega) (by simpa using aa)
    exact inner (fb (bh d.bZ)) 0 acc rfl (by omega) (by omega) (by
     rw[cD]
     simpa[wD]using h)
  exact go fds 0 aR rfl (by omega) rfl)
 rw[<-aT];exact a5
def abP{fds:List bC}{aR:List br}(hf:po fds):(allI fds aR).map en=qh (fds.map gV) (aR.map en):=by
 unfold allI qh;rw[mi,List.map_flatMap,List.flatMap_map];congr 1;refine M8 λd ah=>?_;unfold wD Vj;rw[fR];refine List.map_congr_left λa aC=>?_;show(bh d.bX,bh ((2^a:Nat):Int))=_;rw[kO];rfl
def ac0{fds:List bC}{aR:List br}(hf:po fds)(hm:rq aR):rq (allI fds aR):=by
 intro d ah;rcases fx.1 ah with ah|ah
 .exact hm d ah
 .obtain ⟨f,V_,ah⟩:=List.mem_flatMap.1 ah;obtain⟨a,aC,rfl⟩:=cA.1 ah;have cQ:=(hf f V_).2.lt;have D9:a<32:=lN.1 cQ a ((oj cQ).1 aC);exact⟨(hf f V_).1,dz.of (Nat.pow_lt_pow_right (by omega) D9)⟩
def abO{fds:List bC}{aR:List br}(I:fds.length<=64)(aa:aR.length<=64):(allI fds aR).length<1000000:=by
 have:(fds.flatMap wD).length<=fds.length*32:=by
  clear I
  induction fds with
  |nil=>simp
  |cons d l aN=>
   have:=aaW (d:=d);simp only[List.flatMap_cons,bL,gC];omega
 unfold allI;rw[bL];omega
def sn.all{n x:Nat}{fds:List bC}{aR:List br}(ao:n<=6)(U:x<2^32)(hf:po fds)(hm:rq aR)(I:fds.length<=64)(aa:aR.length<=64):sn.C n (allI fds aR) x (qY (ed (m_ (fds.map gV) (aR.map en) (bF (2^n-1) x)))):=by
 have:=sn.bp ao U (ac0 hf hm) (abO I aa);rw[abP hf]at this;exact this
def HS(n:Int)(l:List bC):Int:=if ko n l=0 then(if 10<n then 3 else 0)else ko n l
def aet{n:Int}{l:List bC}(h:HS n l=0):0<=n/\n<=10/\ko n l=0:=by
 unfold HS at h
 split at h
 .rename_i aO;have:=L6 aO
  split at h
  .cases h
  .exact ⟨by omega,by omega,aO⟩
 .rename_i aO;exact absurd h aO
def aa2{n:Nat}(ao:n<=16):BZ.C n ((2^n-1:Nat):Int):=by
 rw[<-Z4 ao];exact BZ.bp
def hN(t:cH)(m i:Nat):ByteArray:=gy (pick ((t.Rows[i]?).map (·.di) |>.getD []) m)
def rj{t:cH}{m i:Nat}(hi:i<t.Rows.length):hN t m i=gy (pick (t.Rows[i]).di m):=by
 unfold hN;rw[aA hi];rfl
section
variable{t:cH}
def ad5{m i k:Nat}(al:kl t)(hm:m<2^32)(hi:i<t.Rows.length)(aj:k<t.Rows.length):pick (t.Rows[i]).di m=pick (t.Rows[k]).di m↔∀a,m.testBit a=true->nN t i k a:=by
 rw[<-CY al hm hi aj];unfold mY;rw[cx,cx,aA hi,aA aj];simp
def Ao{m i:Nat}(al:kl t)(ao:rz t)(hi:i<t.Rows.length):∀v∈pick (t.Rows[i]).di m,hv v=true/\uu v:=λv av=>
 ⟨al.val (cc hi) v (x3 v av),ao _ (cc hi) v (x3 v av)⟩
def LU{m i k:Nat}(al:kl t)(hi:i<t.Rows.length)(aj:k<t.Rows.length):(pick (t.Rows[i]).di m).length=(pick (t.Rows[k]).di m).length:=
 L7 (by rw[al.len (cc hi),al.len (cc aj)])
def wq{m i k:Nat}(al:kl t)(ao:rz t)(hm:m<2^32)(hi:i<t.Rows.length)(aj:k<t.Rows.length):hN t m i=hN t m k↔∀a,m.testBit a=true->nN t i k a:=by
 rw[rj hi,rj aj,KF (LU al hi aj) (Ao al ao hi) (Ao al ao aj),ad5 al hm hi aj]
def adT{p q i k:Nat}(al:kl t)(ao:rz t)(hi:i<t.Rows.length)(aj:k<t.Rows.length)(h:hN t p i++hN t q i=hN t p k++hN t q k):hN t p i=hN t p k/\hN t q i=hN t q k:=by
 rw[rj hi,rj hi,rj aj,rj aj]at *;rw[KG,KG]at h;have l1:=LU (m:=p) al hi aj;have l2:=LU (m:=q) al hi aj;have:=(KF (by rw[bL,bL,l1,l2]) (λv av=>by
  rcases fx.1 av with av|av
  .exact Ao al ao hi v av
  .exact Ao al ao hi v av) (λv av=>by
  rcases fx.1 av with av|av
  .exact Ao al ao aj v av
  .exact Ao al ao aj v av)).1 h
 obtain⟨I,aa⟩:=List.append_inj this l1;rw[I,aa];exact⟨rfl,rfl⟩
def s4(t:cH)(l:Nat)(s:ByteArray):List Nat:=(nA t.Rows.length).filter λi=>hN t l i==s
def v5{l i:Nat}{s:ByteArray}:i∈s4 t l s↔i<t.Rows.length/\hN t l i=s:=by
 unfold s4;rw[gD,List.mem_range,ml]
def iJ(t:cH)(l p q:Nat)(s:ByteArray):Prop:=(hj ((s4 t l s).map (hN t p))).length*(hj ((s4 t l s).map (hN t q))).length=(hj ((s4 t l s).map λi=>hN t p i++hN t q i)).length
def ad0{l r:Nat}(al:kl t)(ao:rz t)(hl:l<2^t.bl.length)(hr:r<2^t.bl.length):(∀i,i<t.Rows.length->iJ t l (bF r l) (bF (2^t.bl.length-1) (l ||| r)) (hN t l i))↔sQ t l r:=by
 have pT:=al.pT;have af:=Ax pT;have cQ:bF r l<2^32:=aQ oq (by omega);have cR:bF (2^t.bl.length-1) (l ||| r)<2^32:=aQ oq (by omega);have all:∀s,iJ t l (bF r l) (bF (2^t.bl.length-1) (l ||| r)) s↔∀x∈s4 t l s,∀y∈s4 t l s,∃z∈s4 t l s,hN t (bF r l) z=hN t (bF r l) x/\hN t (bF (2^t.bl.length-1) (l ||| r)) z=hN t (bF (2^t.bl.length-1) (l ||| r)) y:=λs=>
  aa6 λx U y aw h=>adT al ao (v5.1 U).1 (v5.1 aw).1 h
 have U5:∀a,(bF (2^t.bl.length-1) (l ||| r)).testBit a=true↔a<t.bl.length/\(l ||| r).testBit a=false:=λa=>by
  rw[fa,Nat.testBit_two_pow_sub_one,c_,decide_eq_true_eq,Bool.not_eq_true']
 constructor
 .intro h i k hi aj he;have NW:=(wq al ao (show l<2^32 by omega) hi aj).2 he;obtain⟨j,aH,aT,a5⟩:=(all _).1 (h i hi) i (v5.2 ⟨hi,rfl⟩) k (v5.2 ⟨aj,NW.symm⟩);obtain⟨jy,NP⟩:=v5.1 aH;refine⟨j,jy,λa aC=>?_,λa aC ag=>(wq al ao cR jy aj).1 a5 a ((U5 a).2 ⟨aC,ag⟩)⟩;by_cases y0:l.testBit a=true
  .exact (wq al ao (show l<2^32 by omega) jy hi).1 NP a y0
  .refine (wq al ao cQ jy hi).1 aT a ?_;rw[hF,kH]at aC;rw[fa,(aC.resolve_left y0)];simpa using y0
 .intro h i hi;refine(all _).2 λx U y aw=>?_;obtain⟨r3,EM⟩:=v5.1 U;obtain⟨OG,qS⟩:=v5.1 aw;obtain⟨j,jy,aT,a5⟩:=h x y r3 OG ((wq al ao (show l<2^32 by omega) r3 OG).1 (EM.trans qS.symm));refine⟨j,v5.2 ⟨jy,?_⟩,(wq al ao cQ jy r3).2 λa aC=>aT a ?_,(wq al ao cR jy OG).2 λa aC=>?_⟩
  .rw [<-EM];exact(wq al ao (show l<2^32 by omega) jy r3).2 λa aC=>aT a (by rw[hF,aC];rfl)
  .rw [fa,c_]at aC;rw[hF,aC.1,Bool.or_true]
  .obtain ⟨I,aa⟩:=(U5 a).1 aC;exact a5 a I aa
end
def KM{E:Env}{f:Nat}{p:List D->Option (D×List D)}{q:List D->Ask}{az:List D}{r:D}{outs:List D}(I:E.kG f=some p)(aa:p az=none)(aB:E.hand f=some q)(aW:∃N,∀n,N<=n->fz (gR E n) (q az)=some (r,outs)):bR E f az r outs:=by
 obtain⟨N,eL⟩:=aW;refine⟨N+1,λm hm=>?_⟩;obtain⟨k,rfl⟩:∃k,m=k+1:=⟨m-1,by omega⟩
 simp only[gR,I,aa,aB];exact eL k (by omega)
def PQ{a:Nat}(h:a<2^32):a<2^top .u32:=by simpa[top]using h
namespace BH
def bp{t:cH}(al:kl t){r:h7}(hr:r∈t.Rows){n:Nat}(ao:n<2^t.bl.length):C r n (gy (pick r.di n)):=by
 have Bb:n<2^32:=cu ao (a6 (by decide) (by have:=al.pT;omega));have hl:=xT (n:=n);obtain⟨q,I,aa⟩:=bj r n (λq=>q=gy (pick r.di n)) (by
  refine⟨_,sh.bp Bb,?_⟩;have loop:∀j,j<=(fb n).length->aJ r (gy (((fb n).take j).filterMap λi=>r.di[i]?)) ((fb n).map λ(i:Nat)=>(i:Int)) (j:Int) λq=>q=gy (pick r.di n):=by
   refine down ?_ ?_
   .apply bE;rw[bB,if_neg (by omega),cT];rfl
   .intro j aH h;apply bE;rw[bB,if_pos (by omega)];have lx:=aA aH;generalize(fb n)[j]=i at lx;have hi:=(oj Bb).1 (aM lx);have ai1:i<t.bl.length:=by
     false_or_by_contra
     rename_i aU;rw[Nat.testBit_lt_two_pow (cu ao (a6 (by decide) (by omega)))]at hi;cases hi
    have y8:=al.len hr;have av:=aA (l:=r.di) (i:=i) (by omega);generalize r.di[i]'(by omega)=v at av;have gI:=al.val hr v (aM av);refine⟨(i:Int),by rw[gP,cx,lx];rfl,v,hG av,(mI v,0),zp.bp gI,?_,?_⟩
    .have a2:=KE (l:=((fb n).take j).filterMap λi=>r.di[i]?) (λv av=>by
      obtain⟨i,_,hi⟩:=List.mem_filterMap.1 av
      exact al.val hr v (aM hi))
     have bA:(((fb n).take j).filterMap λi=>r.di[i]?).length<=32:=Nat.le_trans (List.length_filterMap_le _ _) (by rw[b5];omega);have a3:=Gw gI;rw[RE,Ss];omega
    .rw [dx (by omega)];have e:(((fb n).take (j+1)).filterMap λi=>r.di[i]?)=(((fb n).take j).filterMap λi=>r.di[i]?)++[v]:=by
      rw[cz,lx,List.filterMap_append];simp[av]
     rw[e]at h;simp only[ack,KG];exact h
  have:=loop 0 (iZ _)
  simpa[gy,kh,rE]using this)
 rw[<-I];exact aa
end BH
def tH(l p q:Nat)(r:h7):ik:=(gy (pick r.di l),gy (pick r.di p),gy (pick r.di q))
def S1{t:cH}(al:kl t){l p q:Nat}(hl:l<2^t.bl.length)(af:p<2^t.bl.length)(au:q<2^t.bl.length)(k:List ik->Ask):∀(rs:List h7),(∀r∈rs,r∈t.Rows)->∃N,∀m,N<=m->∀acc,fz (gR env m) (wc pq.zk l p q k (rs.map gk) acc)=fz (gR env m) (k (acc++rs.map (tH l p q)))
 |[],_=>⟨0,λm _ acc=>by simp[wc]⟩
 |r::rs,h=>by
  obtain⟨N,eL⟩:=S1 al hl af au k rs λr hr=>h r (by simp[hr]);have hr:=h r (by simp);obtain⟨ys,I⟩:=BH.bp al hr hl;obtain⟨uF,aa⟩:=BH.bp al hr af;obtain⟨agA,aB⟩:=BH.bp al hr au;refine⟨N+ys+uF+agA,λm hm acc=>?_⟩;have b9:gR env m pq.zk [.agg [.lit (.int .i64 r.my),.sl (r.di.map ja)],.lit (.int .u32 l)]=some (.lit (.string (gy (pick r.di l))),[]):=I m (by omega);have k2:gR env m pq.zk [.agg [.lit (.int .i64 r.my),.sl (r.di.map ja)],.lit (.int .u32 p)]=some (.lit (.string (gy (pick r.di p))),[]):=aa m (by omega);have gY:gR env m pq.zk [.agg [.lit (.int .i64 r.my),.sl (r.di.map ja)],.lit (.int .u32 q)]=some (.lit (.string (gy (pick r.di q))),[]):=aB m (by omega);have ar:=Tw (l:=r.di) (n:=p) λv av=>al.val hr v av;have aI:=Tw (l:=r.di) (n:=q) λv av=>al.val hr v av;have e:(r::rs).map gk=[.lit (.int .i64 r.my),.sl (r.di.map ja)]::rs.map gk:=rfl;rw[e];simp only[wc,fz,b9,k2,gY];rw[if_pos (by omega),eL m (by omega)];simp[tH]
def acB{t:cH}{l p q:Nat}:sf (t.Rows.map (tH l p q))=true↔∀i,i<t.Rows.length->iJ t l p q (hN t l i):=by
 have e:t.Rows.map (tH l p q)=(nA t.Rows.length).map λi=>(hN t l i,hN t p i,hN t q i):=by
  apply List.ext_getElem
  .simp
  .intro i I aa;simp only[List.getElem_map,List.getElem_range];rw[bB]at I;rw[rj I,rj I,rj I];rfl
 have ag_:∀s,lX (t.Rows.map (tH l p q)) s=(s4 t l s).map λi=>(hN t l i,hN t p i,hN t q i):=λs=>by
  rw[e];unfold lX s4;rw[List.filter_map];exact congrArg _ (List.filter_congr λi _=>Eq.refl (hN t l i==s))
 have rK:∀s,vq (t.Rows.map (tH l p q)) s↔iJ t l p q s:=λs=>by
  unfold vq jn ka mQ iJ;rw[ag_];simp only[fR];exact Iff.rfl
 rw[LS];constructor
 .intro h i hi;rw[rj hi];have hm:=h (tH l p q t.Rows[i]) (cA.2 ⟨t.Rows[i],cc hi,rfl⟩);simp only[tH]at hm;exact(rK _).1 hm
 .intro h x U;obtain⟨r,hr,rfl⟩:=cA.1 U;obtain⟨i,hi,rfl⟩:=List.getElem_of_mem hr;have:=h i hi;rw[rj hi]at this;simp only[tH];exact(rK _).2 this
noncomputable def uj(t:cH)(m:br):Bool×Int:=if kP t=0 then Ai t m else(false,kP t)
def vu.bp{t:cH}(ao:rz t){m:br}(hl:dz m.bX)(hr:dz m.bZ):vu.C t m (uj t m):=by
 obtain⟨N,eL⟩:=xD.bp (t:=t);have kv:∀j,N<=j->gR env j pq.Jr [.agg [.lit (.string t.Name),.sl (t.bl.map dQ),.sl (t.Rows.map gk)]]=some (.lit (.int .i64 (kP t)),[]):=λj aH=>eL j aH;by_cases aO:kP t=0
 .have al:=xV.1 aO;have pT:=al.pT;have amF:=Ax pT;have amE:2^t.bl.length<=2^16:=a6 (by decide) pT;have E6:=lI t.bl.length;have w3:=ak_ hl hr;have Eu:bh m.bX ||| bh m.bZ<2^32:=gj hl.lt hr.lt
  have Vf:ft .u32 (eZ .u32 m.bX m.bZ) ((t.bl.map dQ).length:Int)=(((bh m.bX ||| bh m.bZ) / 2^t.bl.length:Nat):Int):=by
   rw[bB,w3];exact ot (PQ Eu)
  by_cases ch:gX t.bl.length m.bX m.bZ=true
  .have bU:=Um.1 ch;have En:bh m.bX<2^t.bl.length:=aQ Nat.left_le_or bU;have mG:bh m.bZ<2^t.bl.length:=aQ Nat.right_le_or bU;have mF:bF (bh m.bZ) (bh m.bX)<2^t.bl.length:=aQ oq mG;have pK:bF (2^t.bl.length-1) (bh m.bX ||| bh m.bZ)<2^t.bl.length:=aQ oq (by omega);have aT:qf m.bX m.bZ=((bF (bh m.bZ) (bh m.bX):Nat):Int):=by
    unfold qf
    conv=>lhs;rw[hl.eq,hr.eq]
    exact sz hr.top hl.top
   have a5:qk ((t.bl.map dQ).length:Int) m.bX m.bZ=((bF (2^t.bl.length-1) (bh m.bX ||| bh m.bZ):Nat):Int):=by
    unfold qk;rw[bB,w3,Li pT];exact sz (PQ (by omega)) (PQ Eu)
   obtain⟨uF,VF⟩:=S1 al En mF pK (λL=>.ret (some (vF (sf L) 0,[]))) t.Rows λr hr=>hr;refine KM (p:=λ_=>none) (q:=sB pq.Jr pq.zk) (by kernel_rfl) rfl (by kernel_rfl) ⟨N+uF,λj aH=>?_⟩;simp only[sB,fz,kv j (by omega),aO,if_true];rw[if_pos (by rw[Vf,Nat.div_eq_of_lt bU];rfl),if_pos (by rw[bB];have:=al.BA;omega),aT,a5];have:=VF j (by omega) [];rw[<-hl.eq]at this;rw[this];simp only[fz,b3];have cm:sf (t.Rows.map (tH (bh m.bX) (bF (bh m.bZ) (bh m.bX)) (bF (2^t.bl.length-1) (bh m.bX ||| bh m.bZ))))=xq t (bh m.bX) (bh m.bZ):=by
    rw[du,acB,LP];exact ad0 al ao En mG
   rw[cm];unfold uj Ai;rw[if_pos aO,if_pos ch];rfl
  .have gz:2^t.bl.length<=bh m.bX ||| bh m.bZ:=Nat.le_of_not_lt λh=>ch (Um.2 h)
   refine KM (p:=λ_=>none) (q:=sB pq.Jr pq.zk) (by kernel_rfl) rfl (by kernel_rfl) ⟨N,λj aH=>?_⟩;simp only[sB,fz,kv j (by omega),aO,if_true];rw[if_neg (by
    rw[Vf];have:0<(bh m.bX ||| bh m.bZ) / 2^t.bl.length:=Nat.div_pos gz E6
    omega)]
   unfold uj Ai;rw[if_pos aO,if_neg ch];rfl
 .refine KM (p:=λ_=>none) (q:=sB pq.Jr pq.zk) (by kernel_rfl) rfl (by kernel_rfl) ⟨N,λj aH=>?_⟩;simp only[sB,fz,kv j (by omega)];rw[if_neg aO];unfold uj;rw[if_neg aO];rfl
def UJ(n:Nat)(l:List bC):Prop:=∀d∈l,bh d.bX<2^n/\bh d.bZ<2^n
def adj{n:Int}{l:List bC}(h:ko n l=0):UJ n.toNat l:=by
 unfold ko at h
 split at h
 .cases h
 .split at h
  .cases h
  .split at h
   .rename_i aC;intro d ah;have:=eW.1 aC d ah;unfold gX at this;simp only[c_,decide_eq_true_eq]at this;exact this
   .cases h
def pv:List ByteArray:=[⟨#[97]⟩,⟨#[98]⟩,⟨#[99]⟩,⟨#[100]⟩,⟨#[101]⟩,⟨#[102]⟩,⟨#[103]⟩,⟨#[104]⟩,⟨#[105]⟩,⟨#[106]⟩,⟨#[107]⟩,⟨#[108]⟩,⟨#[109]⟩,⟨#[110]⟩,⟨#[111]⟩,⟨#[112]⟩]
def abM:∀i:Fin 16,Utf8.encode (IntKind.wrap .i32 (aV (97+(i.val:Int))))=(pv[i.val]?).getD ⟨#[]⟩:=by decide +kernel
def aaD{k:Nat}(h:k<16):pv.take (k+1)=pv.take k++[(pv[k]?).getD ⟨#[]⟩]:=by
 have hl:pv.length=16:=rfl;rw[cz,aA (by omega)];rfl
def SY{n:Nat}(ao:n<=16):(pv.take n).length=n:=by
 have hl:pv.length=16:=rfl;rw[b5];omega
def DF(b:Bool):dy:=⟨1,if b=true then 1 else 0,⟨#[]⟩⟩
def od(n m:Nat):List dy:=(nA n).map λi=>DF (m.testBit i)
def TD{n m:Nat}:(od n m).length=n:=by simp[od]
def abn{n m:Nat}:od (n+1) m=od n m++[DF (m.testBit n)]:=by
 unfold od;rw[List.range_succ,mi];rfl
def TC{n m a:Nat}(aC:a<n):(od n m)[a]?=some (DF (m.testBit a)):=by
 unfold od;rw[cx,List.getElem?_range aC];rfl
def UD:cH:=⟨⟨#[]⟩,[],[]⟩
namespace oc
def cells{n:Nat}{xs:ay}{c0:List ByteArray}{rows:List h7}{m k:Nat}{id:Int}{J:cH->Prop}(ao:n<=16)(hm:m<2^32)(hr:rows.length<=2000)(aj:k<=2000)
  (h:bm n xs c0 (rows++[⟨id,od n m⟩]) ((k+1:Nat):Int) J):∀(d i:Nat),d+i=n->cd n xs c0 rows (m:Int) id (od i m) k i J
 |0,i,ah=>by
  have:i=n:=by omega
  subst this;apply fp;rw[if_neg (by omega),dx (by omega)];exact⟨by omega,h⟩
 |d+1,i,ah=>by
  have next:=cells ao hm hr aj h d (i+1) (by omega);rw[abn]at next;apply fp;rw[if_pos (by omega),dx (by omega)];refine⟨by omega,by rw[TD];omega,?_⟩;have e:aV (dW .u32 (ft .u32 (m:Int) (i:Int)) 1)=if m.testBit i=true then 1 else 0:=by
   rw[TM (k:=.u32) (by simpa[top]using hm) (by decide)]
   split<;>decide
  rw[e];exact next
end oc
def B4.bp{n:Nat}{l r:Int}(hl:dz l)(hr:dz r):B4.C n (eZ .u32 l r) (gX n l r):=by
 obtain⟨q,I,aa⟩:=B4.bj n (eZ .u32 l r) (λq=>q=gX n l r) ⟨by omega,by
  have gn:eZ .u32 l r=((bh l ||| bh r:Nat):Int):=by
   conv=>lhs;rw[hl.eq,hr.eq]
   exact p9 hl.top hr.top
  have bU:bh l ||| bh r<2^32:=gj hl.lt hr.lt
  rw[gn];have aT:IntKind.wrap .u64 ((bh l ||| bh r:Nat):Int)=((bh l ||| bh r:Nat):Int):=by
   unfold IntKind.wrap;simp only[IntKind.bits,IntKind.signed,Bool.false_and,hR,if_false];omega
  rw[aT,ot (k:=.u64) (Nat.lt_trans bU (by decide))];refine du.2 ?_;rw[beq_iff_eq];unfold gX;rw[c_,decide_eq_true_iff,decide_eq_true_iff,<-Hi,<-Ta]
  omega⟩
 rw[<-I];exact aa
def Ut{b:UInt8}(h:(tv (eN b)&&true)=true):sN ⟨#[b]⟩=true:=by
 unfold sN;have e:(⟨#[b]⟩:ByteArray).toList=[b]:=Hc (l:=[b]);rw[e];simp only[kQ,mS,List.all_nil,Bool.and_true]at h⊢;rw[h];have:decide ([b]=Aw)=false:=decide_eq_false (by unfold Aw;simp);rw[this];rfl
def TY:∀(r pre:List ByteArray),(∀x∈r,sN x=true)->(pre++r).Nodup->x6 pre r=true
 |[],_,_,_=>rfl
 |a::r,pre,ao,ah=>by
  rw[x6,ao a (by simp),TY r (pre++[a]) (λx U=>ao x (by simp[U])) (by rw[cD];exact ah)];have:pre.any (qA a)=false:=by
   rw[List.any_eq_false];intro x U;unfold qA;rw[decide_eq_true_iff];intro he;subst he;rw[ig]at ah;exact ah.2.2 x U x (by simp) rfl
  rw[this];rfl
def ZE{m:Nat}:um (pv.take m)=true:=by
 unfold um;refine TY _ [] (λx U=>?_) ?_
 .have U:=List.mem_of_mem_take U;unfold pv at U;simp only[hc,List.not_mem_nil,or_false]at U;rcases U with rfl|rfl|rfl|rfl|rfl|rfl|rfl|rfl|rfl|rfl|rfl|rfl|rfl|rfl|rfl|rfl<;>exact Ut (by decide)
 .rw [b3];have:pv.Nodup:=by decide +kernel
  exact this.sublist (List.take_sublist _ _)
def aam{n m:Nat}:rm (od n m)=true:=by
 unfold rm;rw[eW];intro v av;obtain⟨i,_,rfl⟩:=cA.1 av;unfold hv;rw[decide_eq_true_iff];exact .inr (.inl ⟨rfl,L3⟩)
def SA{O:Type}{l:List O}{P:O->Prop}{L:Int->Prop}{N:Prop}(nd:(∀a∈l,P a)->L (l.length:Int))(Nv:(¬ ∀a∈l,P a)->N)(ae:∀(k:Nat)(a:O),l[k]?=some a->k<l.length->(P a->L ((k+1:Nat):Int))->(¬P a->N)->L (k:Int)):L 0:=by
 have go:∀(d k:Nat),d+k=l.length->(∀j a,j<k->l[j]?=some a->P a)->L (k:Int):=by
  intro d
  induction d with
  |zero=>
   intro k aj af;have aj:k=l.length:=by omega
   subst aj;refine nd λa aC=>?_;obtain⟨j,aH⟩:=List.getElem?_of_mem aC;exact af j a (List.getElem?_eq_some_iff.1 aH).1 aH
  |succ d aN=>
   intro k aj af;have bU:k<l.length:=by omega
   have lx:=aA bU;refine ae k _ lx bU (λfT=>aN (k+1) (by omega) λj a aH aC=>?_) (λfT=>Nv λh=>fT (h _ (cc bU)));by_cases NP:j=k
   .subst NP;rw[lx]at aC;cases aC;exact fT
   .exact af j a (by omega) aC
 exact go l.length 0 rfl λj _ aH=>absurd aH (Nat.not_lt_zero j)
def Md(t:cH)(fds:List bC)(aR:List br):Prop:=(∀d∈fds,qq t (bh d.bX) (bh d.bZ))/\∀m∈aR,sQ t (bh m.bX) (bh m.bZ)
open Classical in
noncomputable def rr(t:cH)(fds:List bC)(aR:List br):Bool:=decide (Md t fds aR)
def Gb{t:cH}{fds:List bC}{aR:List br}:rr t fds aR=true↔Md t fds aR:=by unfold rr;exact @decide_eq_true_iff _ (Classical.propDecidable _)
def R3{t:cH}{fds:List bC}{aR:List br}(h:¬Md t fds aR):rr t fds aR=false:=by
 cases ag:rr t fds aR with
 |false=>rfl
 |true=>exact absurd (Gb.1 ag) h
def LQ{t:cH}{l r:Nat}(h:¬sQ t l r):xq t l r=false:=by
 cases ag:xq t l r with
 |false=>rfl
 |true=>exact absurd (LP.1 ag) h
noncomputable def uA(t:cH)(fds:List bC)(aR:List br):Bool×Int:=if kP t=0 then(if hy (t.bl.length:Int) fds aR=0 then(rr t fds aR,0)else(false,hy (t.bl.length:Int) fds aR))else(false,kP t)
section
variable{t:cH}{fds:List bC}{aR:List br}
def abU{n:Int}(h:hy n fds aR=0):fds.length<=64/\aR.length<=64:=by
 unfold hy at h
 split at h
 .rename_i aO
  split at h
  .cases h
  .refine ⟨?_,by omega⟩;unfold ko at aO
   split at aO
   .cases aO
   .split at aO
    .cases aO
    .omega
 .rename_i aO;exact absurd h aO
def ZI{n:Nat}(h:hy (n:Int) fds aR=0):(∀d∈fds,bh d.bX<2^n/\bh d.bZ<2^n)/\∀m∈aR,gX n m.bX m.bZ=true:=by
 unfold hy at h
 split at h
 .rename_i aO;refine⟨λd ah=>?_,?_⟩
  .unfold ko at aO
   split at aO
   .cases aO
   .split at aO
    .cases aO
    .split at aO
     .rename_i aa;rw[eW]at aa;have:=aa d ah;unfold gX at this;rw[ba,c_,decide_eq_true_eq,decide_eq_true_eq]at this;exact this
     .cases aO
  .split at h
   .cases h
   .split at h
    .rename_i aa;rw[eW]at aa;intro m hm;have:=aa m hm
     rwa [ba]at this
    .cases h
 .rename_i aO;exact absurd h aO
def Z6(al:kl t){m:br}(ch:gX t.bl.length m.bX m.bZ=true):uj t m=(xq t (bh m.bX) (bh m.bZ),0):=by
 unfold uj Ai;rw[if_pos (xV.2 al),if_pos ch]
def o0.bp(ao:rz t)(hf:po fds)(hm:rq aR):o0.C t fds aR (uA t fds aR):=by
 obtain⟨r,I,aa⟩:=o0.bj t fds aR (λr=>r=uA t fds aR) (by
  refine⟨_,xD.bp,?_⟩;unfold uA;by_cases aO:kP t=0
  .rw [if_pos aO,if_pos aO];have al:=xV.1 aO;refine⟨_,mN.bp hf hm,?_⟩;by_cases ag:hy (t.bl.length:Int) fds aR=0
   .rw [if_pos ag,if_pos ag];obtain⟨l1,l2⟩:=abU ag;obtain⟨v1,v2⟩:=ZI ag;refine SA (l:=fds) (P:=λd=>qq t (bh d.bX) (bh d.bZ)) (L:=λk=>o0.aJ t fds aR k _) (N:=(false,(0:Int))=(rr t fds aR,0)) (λfH=>?_) (λhZ=>by rw[R3 λh=>hZ h.1]) (λk d ah aj aw hZ=>?_)
    .apply o0.bE;rw[if_neg (by omega)];refine SA (l:=aR) (P:=λd=>sQ t (bh d.bX) (bh d.bZ)) (L:=λk=>o0.bm t aR k _) (N:=(false,(0:Int))=(rr t fds aR,0)) (λair=>?_) (λhZ=>by rw[R3 λh=>hZ h.2]) (λk m e8 aj aw hZ=>?_)
     .apply o0.cU;rw[if_neg (by omega),Gb.2 ⟨fH,air⟩]
     .apply o0.cU;have l5:=aM e8;rw[if_pos (by omega)];refine⟨m,hG e8,_,vu.bp ao (hm m l5).1 (hm m l5).2,?_⟩;rw[Z6 al (v2 m l5),dx (by omega)];by_cases bW:sQ t (bh m.bX) (bh m.bZ)
      .rw [if_pos (LP.2 bW)];exact aw bW
      .rw [if_neg (by rw[LQ bW];simp)];exact hZ bW
    .apply o0.bE;have oM:=aM ah;have Im:=hf d oM;have av:=v1 d oM;rw[if_pos (by omega)];obtain⟨q,b_,cM,fI⟩:=B0.bp (t:=t) (fd:=d) ao Im.1.eq Im.2.eq Im.1.lt Im.2.lt;refine⟨d,hG ah,q,b_,?_⟩;have na:yb t (bh d.bX) (bh d.bZ)=0:=by
      unfold yb;rw[if_pos aO,if_pos (Hi.2 av)]
     rw[dx (by omega)];by_cases cR:qq t (bh d.bX) (bh d.bZ)
     .rw [if_pos (fI.2 ⟨na,cR⟩)];exact aw cR
     .rw [if_neg λh=>cR (fI.1 h).2];exact hZ cR
   .rw [if_neg ag,if_neg ag]
  .rw [if_neg aO,if_neg aO])
 rw[<-I];exact aa
noncomputable def Dr(t:cH)(fds:List bC)(aR:List br)(g:br):Bool:=decide (kP t=0)&&(decide (hy (t.bl.length:Int) fds aR=0)&&(rr t fds aR&&(gX t.bl.length g.bX g.bZ&&!xq t (bh g.bX) (bh g.bZ))))
def Zx:(uA t fds aR=(false,kP t)/\kP t≠0)∨(uA t fds aR=(false,hy (t.bl.length:Int) fds aR)/\kP t=0/\hy (t.bl.length:Int) fds aR≠0)∨(uA t fds aR=(rr t fds aR,0)/\kP t=0/\hy (t.bl.length:Int) fds aR=0):=by
 unfold uA;by_cases aO:kP t=0
 .by_cases ag:hy (t.bl.length:Int) fds aR=0
  .exact .inr (.inr ⟨by rw[if_pos aO,if_pos ag],aO,ag⟩)
  .exact .inr (.inl ⟨by rw[if_pos aO,if_neg ag],aO,ag⟩)
 .exact .inl ⟨by rw[if_neg aO],aO⟩
def B6.bp(ao:rz t)(hf:po fds)(hm:rq aR){g:br}(hl:dz g.bX)(hr:dz g.bZ):B6.C t fds aR g (Dr t fds aR g):=by
 obtain⟨r,I,aa⟩:=B6.bj t fds aR g (λr=>r=Dr t fds aR g) (by
  refine⟨_,o0.bp ao hf hm,?_⟩;unfold Dr;rcases Zx (t:=t) (fds:=fds) (aR:=aR)with⟨e,aO⟩|⟨e,aO,ag⟩|⟨e,aO,ag⟩
  .rw [e,if_neg aO];simp[aO]
  .rw [e,if_neg ag];simp[ag]
  .rw [e,if_pos rfl];cases cg:rr t fds aR with
   |false=>rw[if_neg (by simp)];simp
   |true=>
    rw[if_pos rfl];refine⟨_,vu.bp ao hl hr,?_⟩;unfold uj Ai;rw[if_pos aO];by_cases ch:gX t.bl.length g.bX g.bZ=true
    .rw [if_pos ch,if_pos rfl];simp[aO,ag,ch]
    .rw [if_neg ch,if_neg (by decide)]
     simp[ch])
 rw[<-I];exact aa
end
end Go.aS
