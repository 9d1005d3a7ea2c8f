/- What the functions answer. No conditions. -/
import Derived.Test.YtcbhcnkfefbddaaGreatDoorTopMultivaluedLaw3
import Derived.Test.YtcbhcnkfefbddaaGreatDoorTopMultivaluedLaw9
import Derived.Test.YtcbhcnkfefbddaaGreatDoorTopMultivaluedLaw5
set_option linter.all false
open Nat renaming le_refl->aA,mul_le_mul_left->a6
open Bool renaming eq_false_iff->aM
open Int renaming tdiv_eq_ediv_of_nonneg->aQ
namespace Go.aS
open Go.Sort
section
variable{p:ay->Prop}{lt:ay->ay->Bool}(cP:Ah p lt jm.C)
include cP
namespace Fo
def inner{a b i:Nat}{J:aL->Prop}(j:Nat):∀(d:Array (ay)),hT p d->j<d.size->cE d->cd a b i (insInner lt a j d).toList J->bm a b i j d.toList J:=by
 induction j with
 |zero=>
  intro d af aH ae h;apply cU;rw[if_neg (by omega)];exact h
 |succ j aN=>
  intro d af aH ae h;apply cU;have e:insInner lt a (j+1) d=if j+1 > a&&lt d[j+1]! d[j]! then insInner lt a j (swp d (j+1) j)else d:=rfl
  rw[e]at h;by_cases Ns:a<j+1
  .rw [if_pos (by omega)];rw[cW (((j+1:Nat):Int)-1) j (by omega) (by unfold cE at ae;omega)];refine⟨_,eR aH,_,eR (by omega),cP.ite (af _ aH) (af _ (by omega)) ?_⟩;by_cases hl:lt d[j+1]! d[j]! = true
   .rw [if_pos hl];rw[if_pos (by rw[hl];simpa using Ns)]at h;obtain⟨x,U⟩:=m6 (d:=d) (i:=((j+1:Nat):Int)) (x:=d[j]!) (j:=j) (by omega);refine⟨x,U,?_⟩;rw[mV];exact aN _ ((dO.swp aH (by omega)).all p af) (by rw[size_swp];omega) (by unfold cE;rw[size_swp];exact ae) h
   .rw [if_neg hl];rw[if_neg (by rw[aM.2 hl];simp)]at h;exact h
  .rw [if_neg (by omega)];rw[if_neg (by simp;omega)]at h;exact h
def outer{a b:Nat}{J:aL->Prop}(n:Nat):∀(i:Nat)(d:Array (ay)),b-i<=n->b<=d.size->hT p d->cE d->J (insOuter lt a b i d).toList->aJ a b i d.toList J:=by
 induction n with
 |zero=>
  intro i d ao ag af ae h;apply bE;unfold insOuter at h;rw[if_neg (by omega)]at h;rw[if_neg (by omega)];exact h
 |succ n aN=>
  intro i d ao ag af ae h;apply bE;unfold insOuter at h;by_cases hi:i<b
  .rw [if_pos (by omega)];rw[if_pos hi]at h;have an:=Qs lt a i d (by omega);refine inner cP i d af (by omega) ae ?_;apply fp;rw[cW ((i:Int)+1) (i+1) (by omega) (by unfold cE at ae;omega)];exact aN (i+1) _ (by omega) (by rw[an.size];exact ag) (an.all p af) (by unfold cE;rw[an.size];exact ae) h
  .rw [if_neg (by omega)];rw[if_neg hi]at h;exact h
def bp{a b:Nat}{d:Array (ay)}(dH:a<=b)(ag:b<=d.size)(af:hT p d)(ae:cE d):C a b d.toList (insertionSort lt d a b).toList:=by
 obtain⟨r,I,aa⟩:=bj a b d.toList (λr=>r=(insertionSort lt d a b).toList) (by
  rw[cW ((a:Int)+1) (a+1) (by omega) (by unfold cE at ae;omega)]
  exact outer cP (b-(a+1)) (a+1) d (aA _) ag af ae rfl)
 rw[<-I];exact aa
end Fo
namespace zq
def loop{hi first:Nat}{J:aL->Prop}(n:Nat):∀(root:Nat)(d:Array (ay)),hi-root<=n->root<=hi->first+hi<=d.size->hT p d->cE d->J (siftDown lt hi first root d).toList->aJ hi first root d.toList J:=by
 induction n with
 |zero=>
  intro root d ao hr ag af ae h;unfold cE at ae;apply bE;rw[cW (2*(root:Int)) (2*root) (by omega) (by omega),cW (((2*root:Nat):Int)+1) (2*root+1) (by omega) (by omega)];unfold siftDown at h;rw[dif_pos (by omega)]at h;rw[if_pos (by omega)];exact h
 |succ n aN=>
  intro root d ao hr ag af ae h;have ds:=ae;unfold cE at ds;have two:∀c:Nat,c<hi->root<c->(if lt d[first+root]! d[first+c]! = true then J (siftDown lt hi first c (swp d (first+root) (first+c))).toList else J d.toList)->bm hi first root c d.toList J:=λc ad amv h=>by
   apply cU;rw[cW ((first:Int)+root) (first+root) (by omega) (by omega),cW ((first:Int)+c) (first+c) (by omega) (by omega)];refine⟨_,eR (by omega),_,eR (by omega),cP.ite (af _ (by omega)) (af _ (by omega)) ?_⟩
   split
   .rename_i hl;rw[if_pos hl]at h;obtain⟨x,U⟩:=m6 (d:=d) (i:=((first+root:Nat):Int)) (x:=d[first+c]!) (j:=first+c) (by omega);refine⟨x,U,?_⟩;rw[mV];exact aN c _ (by omega) (by omega) (by rw[size_swp];exact ag) ((dO.swp (by omega) (by omega)).all p af) (by unfold cE;rw[size_swp];exact ae) h
   .rename_i hl;rw[if_neg hl]at h;exact h
  apply bE;rw[cW (2*(root:Int)) (2*root) (by omega) (by omega),cW (((2*root:Nat):Int)+1) (2*root+1) (by omega) (by omega)];unfold siftDown at h;by_cases I:2*root+1 ≥ hi
  .rw [dif_pos I]at h;rw[if_pos (by omega)];exact h
  .rw [dif_neg I]at h;rw[if_neg (by omega),cW (((2*root+1:Nat):Int)+1) (2*root+2) (by omega) (by omega)];by_cases aa:2*root+2<hi
   .rw [if_pos (by omega)];rw[cW ((first:Int)+((2*root+1:Nat):Int)) (first+(2*root+1)) (by omega) (by omega),cW (((first+(2*root+1):Nat):Int)+1) (first+(2*root+1)+1) (by omega) (by omega)];refine⟨_,eR (by omega),_,eR (by omega),cP.ite (af _ (by omega)) (af _ (by omega)) ?_⟩;by_cases hl:lt d[first+(2*root+1)]! d[first+(2*root+1)+1]! = true
    .rw [if_pos hl];rw[if_pos (by rw[hl];simpa using aa)]at h;refine two _ aa (by omega) ?_;by_cases aB:lt d[first+root]! d[first+(2*root+2)]! = true
     .rw [if_pos aB];rw[if_neg (by rw[aB];simp),dif_pos aa]at h;exact h
     .rw [if_neg aB];rw[if_pos (by rw[aM.2 aB];rfl)]at h;exact h
    .rw [if_neg hl];rw[if_neg (by rw[aM.2 hl];simp)]at h;refine two _ (by omega) (by omega) ?_;by_cases aB:lt d[first+root]! d[first+(2*root+1)]! = true
     .rw [if_pos aB];rw[if_neg (by rw[aB];simp)]at h;exact h
     .rw [if_neg aB];rw[if_pos (by rw[aM.2 aB];rfl)]at h;exact h
   .rw [if_neg (by omega)];rw[if_neg (by simp;omega)]at h;refine two _ (by omega) (by omega) ?_;by_cases aB:lt d[first+root]! d[first+(2*root+1)]! = true
    .rw [if_pos aB];rw[if_neg (by rw[aB];simp)]at h;exact h
    .rw [if_neg aB];rw[if_pos (by rw[aM.2 aB];rfl)]at h;exact h
def bp{lo hi first:Nat}{d:Array (ay)}(hl:lo<=hi)(ag:first+hi<=d.size)(af:hT p d)(ae:cE d):C lo hi first d.toList (siftDown lt hi first lo d).toList:=by
 obtain⟨r,I,aa⟩:=bj lo hi first d.toList (λr=>r=(siftDown lt hi first lo d).toList) (loop cP (hi-lo) lo d (aA _) hl ag af ae rfl)
 rw[<-I];exact aa
end zq
namespace E_
def build{a hi:Nat}{J:aL->Prop}(aU:1<=hi)(k:Nat):∀(d:Array (ay)),k<=hi->a+hi<=d.size->hT p d->cE d->(∀bf,dO d bf->bf=heapBuild lt hi a k d->bm a ((hi:Int)-1) bf.toList J)->aJ a hi ((k:Int)-1) d.toList J:=by
 induction k with
 |zero=>
  intro d aj ag af ae h;have ds:=ae;unfold cE at ds;apply bE;rw[if_neg (by omega),P1 ((hi:Int)-1) (by omega) (by omega)];exact h d (dO.refl d) rfl
 |succ k aN=>
  intro d aj ag af ae h;have ds:=ae;unfold cE at ds;apply bE;have e:((k+1:Nat):Int)-1=(k:Int):=by omega
  rw[e,if_pos (by omega)];have an:=FR lt hi a (hi-k) k d (aA _) ag;refine⟨_,zq.bp cP (lo:=k) (by omega) ag af ae,?_⟩;rw[P1 ((k:Int)-1) (by omega) (by omega)];exact aN _ (by omega) (by rw[an.size];exact ag) (an.all p af) (by unfold cE;rw[an.size];exact ae) λbf I aa=>h bf (an.trans I) aa
def pop{a:Nat}{J:aL->Prop}(k:Nat):∀(d:Array (ay)),a+k<=d.size->a<d.size->hT p d->cE d->J (heapPop lt a k d).toList->bm a ((k:Int)-1) d.toList J:=by
 induction k with
 |zero=>
  intro d ag aC af ae h;apply cU;rw[if_neg (by omega)];exact h
 |succ k aN=>
  intro d ag aC af ae h;have ds:=ae;unfold cE at ds;apply cU;have e:((k+1:Nat):Int)-1=(k:Int):=by omega
  rw[e,if_pos (by omega),cW ((a:Int)+k) (a+k) (by omega) (by omega)];obtain⟨x,U⟩:=m6 (d:=d) (i:=(a:Int)) (x:=d[a+k]!) (j:=a+k) (by omega);have an:=FR lt k a k 0 (swp d a (a+k)) (by omega) (by rw[size_swp];omega);have Be:dO d (swp d a (a+k)):=dO.swp aC (by omega);have sp:=zq.bp cP (lo:=0) (hi:=k) (first:=a) (d:=swp d a (a+k)) (Nat.zero_le _) (by rw[size_swp];omega) (Be.all p af) (by unfold cE;rw[size_swp];exact ae);refine⟨_,eR (by omega),_,eR aC,x,U,_,by rw[mV];exact sp,?_⟩;rw[P1 ((k:Int)-1) (by omega) (by omega)];exact aN _ (by rw[an.size,size_swp];omega) (by rw[an.size,size_swp];exact aC) (an.all p (Be.all p af)) (by unfold cE;rw[an.size,size_swp];exact ae) h
def bp{a b:Nat}{d:Array (ay)}(dH:a<b)(ag:b<=d.size)(af:hT p d)(ae:cE d):C a b d.toList (heapSort lt d a b).toList:=by
 have ds:=ae;unfold cE at ds;obtain⟨r,I,aa⟩:=bj a b d.toList (λr=>r=(heapSort lt d a b).toList) (by
  rw[cW ((b:Int)-a) (b-a) (by omega) (by omega),cW (((b-a:Nat):Int)-1) (b-a-1) (by omega) (by omega)];have e:Int.tdiv ((b-a-1:Nat):Int) 2=(((b-a-1) / 2:Nat):Int):=by
   rw[aQ (by omega)];omega
  rw[e,cW (((b-a-1) / 2:Nat):Int) ((b-a-1) / 2) rfl (by omega)];have:=build cP (a:=a) (hi:=b-a) (J:=λr=>r=(heapSort lt d a b).toList) (by omega) ((b-a-1) / 2+1) d (by omega) (by omega) af ae (λbf an he=>by
   refine pop cP (b-a) bf (by rw[an.size];omega) (by rw[an.size];omega) (an.all p af) (by unfold cE;rw[an.size];exact ae) ?_
   rw[he];rfl)
  rwa [show(((b-a-1) / 2+1:Nat):Int)-1=(((b-a-1) / 2:Nat):Int) by omega]at this)
 rw[<-I];exact aa
end E_
end
open Go.Sort
section
variable{p:ay->Prop}{lt:ay->ay->Bool}(cP:Ah p lt jm.C)
include cP
def vw.bp{i j:Nat}{s:Int}{d:Array (ay)}(af:hT p d)(hi:i<d.size)(aH:j<d.size):∃r,vw.C d.toList i j s r/\((r.1=(i:Int)/\r.2.1=(j:Int))∨(r.1=(j:Int)/\r.2.1=(i:Int))):=by
 obtain⟨r,I,aa⟩:=vw.bj d.toList i j s (λr=>(r.1=(i:Int)/\r.2.1=(j:Int))∨(r.1=(j:Int)/\r.2.1=(i:Int))) (by
  refine⟨_,eR aH,_,eR hi,cP.ite (af _ aH) (af _ hi) ?_⟩
  split
  .exact .inr ⟨rfl,rfl⟩
  .exact .inl ⟨rfl,rfl⟩)
 exact⟨r,aa,I⟩
def xx.bp{i j k lo hi:Nat}{s:Int}{d:Array (ay)}(af:hT p d)(aU:hi<=d.size)(Eh:lo<=i/\i<hi)(aH:lo<=j/\j<hi)(aj:lo<=k/\k<hi):∃r,xx.C d.toList i j k s r/\∃m:Nat,r.1=(m:Int)/\lo<=m/\m<hi:=by
 obtain⟨r,I,aa⟩:=xx.bj d.toList i j k s (λr=>∃m:Nat,r.1=(m:Int)/\lo<=m/\m<hi) (by
  have pick:∀(x y:Nat)(s:Int),lo<=x/\x<hi->lo<=y/\y<hi->∃r,vw.C d.toList x y s r/\(∃m:Nat,r.1=(m:Int)/\lo<=m/\m<hi)/\∃m:Nat,r.2.1=(m:Int)/\lo<=m/\m<hi:=λx y s U aw=>by
   obtain⟨r,aT,a5⟩:=vw.bp cP (i:=x) (j:=y) (s:=s) af (by omega) (by omega);rcases a5 with⟨a,b⟩|⟨a,b⟩
   .exact ⟨r,aT,⟨x,a,U⟩,⟨y,b,aw⟩⟩
   .exact ⟨r,aT,⟨y,a,aw⟩,⟨x,b,U⟩⟩
  obtain⟨r1,cF,⟨h1,aT,cb⟩,⟨sa,f1,c5⟩⟩:=pick i j s Eh aH;obtain⟨r2,ck,⟨hD,a5,cK⟩,⟨I4,f2,eo⟩⟩:=pick sa k r1.2.2 c5 aj;obtain⟨bx,dG,⟨pS,ez,cS⟩,⟨sb,f3,h9⟩⟩:=pick h1 hD r2.2.2 cb cK
  refine⟨r1,cF,r2,by rw[f1];exact ck,bx,by rw[aT,a5];exact dG,sb,f3,h9⟩)
 exact⟨r,aa,I⟩
def tA.bp{i lo hi:Nat}{s:Int}{d:Array (ay)}(af:hT p d)(ae:cE d)(aU:hi<=d.size)(I:lo+1<=i)(aa:i+1<hi):∃r,tA.C d.toList i s r/\∃m:Nat,r.1=(m:Int)/\lo<=m/\m<hi:=by
 unfold cE at ae;obtain⟨r,aB,aW⟩:=tA.bj d.toList i s (λr=>∃m:Nat,r.1=(m:Int)/\lo<=m/\m<hi) (by
  rw[cW ((i:Int)-1) (i-1) (by omega) (by omega),cW ((i:Int)+1) (i+1) (by omega) (by omega)];obtain⟨r,c,m,e,b⟩:=xx.bp cP (i:=i-1) (j:=i) (k:=i+1) (lo:=lo) (hi:=hi) (s:=s) af aU (by omega) (by omega) (by omega)
  exact⟨r,c,m,e,b⟩)
 exact⟨r,aW,aB⟩
def tE.bp{a b:Nat}{d:Array (ay)}(af:hT p d)(ae:cE d)(ag:b<=d.size)(dL:a+8<=b):∃r,tE.C d.toList a b r/\∃m:Nat,r.1=(m:Int)/\a<=m/\m<b:=by
 have ds:=ae;unfold cE at ds;have two:∀(m:Nat)(q:Int)(J:Int×Int->Prop),(∀h,J ((m:Int),h))->tE.bm q m J:=λm q J h=>by
  apply tE.cU
  split
  .exact h _
  .split
   .exact h _
   .exact h _
 have one:∀(i j k:Nat)(q:Int)(J:Int×Int->Prop),a<=i/\i<b->a<=j/\j<b->a<=k/\k<b->(∀(m:Nat) h,a<=m/\m<b->J ((m:Int),h))->tE.aJ d.toList q i j k J:=λi j k q J I aa aB h=>by
  apply tE.bE;obtain⟨r,c,m,e,f⟩:=xx.bp cP (i:=i) (j:=j) (k:=k) (lo:=a) (hi:=b) (s:=q) af ag I aa aB;refine⟨r,c,?_⟩;rw[e];exact two m _ J λx=>h m x f
 obtain⟨r,aB,aW⟩:=tE.bj d.toList a b (λr=>∃m:Nat,r.1=(m:Int)/\a<=m/\m<b) (by
  have e:Int.tdiv ((b-a:Nat):Int) 4=(((b-a) / 4:Nat):Int):=by
   rw[aQ (by omega)];omega
  rw[cW ((b:Int)-a) (b-a) (by omega) (by omega),e,cW (((b-a) / 4:Nat):Int) ((b-a) / 4) rfl (by omega)];generalize au:(b-a) / 4=q;rw[cW ((q:Int)*1) q (by omega) (by omega),cW ((q:Int)*2) (q*2) (by omega) (by omega),cW ((q:Int)*3) (q*3) (by omega) (by omega),cW ((a:Int)+(q:Int)) (a+q) (by omega) (by omega),cW ((a:Int)+((q*2:Nat):Int)) (a+q*2) (by omega) (by omega),cW ((a:Int)+((q*3:Nat):Int)) (a+q*3) (by omega) (by omega)];rw[if_pos (by omega)]
  split
  .rename_i D4;obtain⟨r1,cF,h1,aT,f1⟩:=tA.bp cP (i:=a+q) (lo:=a) (hi:=b) (s:=0) af ae ag (by omega) (by omega);obtain⟨r2,ck,hD,a5,f2⟩:=tA.bp cP (i:=a+q*2) (lo:=a) (hi:=b) (s:=r1.2) af ae ag (by omega) (by omega);obtain⟨bx,dG,pS,ez,f3⟩:=tA.bp cP (i:=a+q*3) (lo:=a) (hi:=b) (s:=r2.2) af ae ag (by omega) (by omega);refine⟨r1,cF,r2,ck,bx,dG,?_⟩;rw[aT,a5,ez];exact one h1 hD pS _ _ f1 f2 f3 λm h hm=>⟨m,rfl,hm⟩
  .exact one (a+q) (a+q*2) (a+q*3) _ _ (by omega) (by omega) (by omega) λm h hm=>⟨m,rfl,hm⟩)
 exact⟨r,aW,aB⟩
omit cP in
def sm.loop{J:aL->Prop}(n:Nat):∀(i j:Nat)(d:Array (ay)),j-i<=n->j<d.size->cE d->J (reverseLoop i j d).toList->sm.aJ i j d.toList J:=by
 induction n with
 |zero=>
  intro i j d ao aH ae h;apply sm.bE;unfold reverseLoop at h;rw[if_neg (by omega)]at h;rw[if_neg (by omega)];exact h
 |succ n aN=>
  intro i j d ao aH ae h;have ds:=ae;unfold cE at ds;apply sm.bE;unfold reverseLoop at h;by_cases iT:i<j
  .rw [if_pos iT]at h;rw[if_pos (by omega)];obtain⟨x,U⟩:=m6 (d:=d) (i:=(i:Int)) (x:=d[j]!) (j:=j) aH;refine⟨_,eR aH,_,eR (by omega),x,U,?_⟩;rw[mV,cW ((i:Int)+1) (i+1) (by omega) (by omega),cW ((j:Int)-1) (j-1) (by omega) (by omega)];exact aN _ _ _ (by omega) (by rw[size_swp];omega) (by unfold cE;rw[size_swp];exact ae) h
  .rw [if_neg iT]at h;rw[if_neg (by omega)];exact h
omit cP in
def sm.bp{a b:Nat}{d:Array (ay)}(dH:a<b)(ag:b<=d.size)(ae:cE d):sm.C a b d.toList (reverseRange d a b).toList:=by
 have ds:=ae;unfold cE at ds;obtain⟨r,I,aa⟩:=sm.bj a b d.toList (λr=>r=(reverseRange d a b).toList) (by
  rw[cW ((b:Int)-1) (b-1) (by omega) (by omega)]
  exact sm.loop (b-1-a) a (b-1) d (aA _) (by omega) ae rfl)
 rw[<-I];exact aa
namespace E7
def scan{a b:Nat}{s:Int}{J:Bool×aL->Prop}(n:Nat):∀(i:Nat)(d:Array (ay)),b-i<=n->1<=i->i<=b->b<=d.size->hT p d->cE d->h5 a b (scanSorted lt d b i) s d.toList J->bm a b i s d.toList J:=by
 induction n with
 |zero=>
  intro i d ao I Ei ag af ae h;apply cU;unfold scanSorted at h;rw[if_neg (by simp;omega)]at h;rw[if_neg (by omega)];exact h
 |succ n aN=>
  intro i d ao I Ei ag af ae h;have ds:=ae;unfold cE at ds;apply cU;unfold scanSorted at h;by_cases hi:i<b
  .rw [if_pos (by omega),cW ((i:Int)-1) (i-1) (by omega) (by omega)];refine⟨_,eR (by omega),_,eR (by omega),cP.ite (af _ (by omega)) (af _ (by omega)) ?_⟩;by_cases hl:lt d[i]! d[i-1]! = true
   .rw [if_pos hl];rw[if_neg (by rw[hl];simp)]at h;exact h
   .rw [if_neg hl];rw[if_pos (by rw[aM.2 hl];simpa using hi)]at h;rw[cW ((i:Int)+1) (i+1) (by omega) (by omega)];exact aN (i+1) d (by omega) (by omega) (by omega) ag af ae h
  .rw [if_neg (by simp;omega)]at h;rw[if_neg (by omega)];exact h
def down{a b i:Nat}{s:Int}{J:Bool×aL->Prop}(j:Nat):∀(d:Array (ay)),j<d.size->hT p d->cE d->js a b i s (shiftDown lt j d).toList J->cd a b i s j d.toList J:=by
 induction j with
 |zero=>
  intro d aH af ae h;apply fp;rw[if_neg (by omega)];exact h
 |succ j aN=>
  intro d aH af ae h;have ds:=ae;unfold cE at ds;apply fp;have e:shiftDown lt (j+1) d=if !lt d[j+1]! d[j]! then d else shiftDown lt j (swp d (j+1) j):=rfl
  rw[e]at h;rw[if_pos (by omega),cW (((j+1:Nat):Int)-1) j (by omega) (by omega)];refine⟨_,eR aH,_,eR (by omega),cP.ite (af _ aH) (af _ (by omega)) ?_⟩;by_cases hl:lt d[j+1]! d[j]! = true
  .rw [if_pos hl];rw[if_neg (by rw[hl];simp)]at h;obtain⟨x,U⟩:=m6 (d:=d) (i:=((j+1:Nat):Int)) (x:=d[j]!) (j:=j) (by omega);refine⟨x,U,?_⟩;rw[mV];exact aN _ (by rw[size_swp];omega) ((dO.swp aH (by omega)).all p af) (by unfold cE;rw[size_swp];exact ae) h
  .rw [if_neg hl];rw[if_pos (by rw[aM.2 hl];rfl)]at h;exact h
def up{a b i:Nat}{s:Int}{J:Bool×aL->Prop}(n:Nat):∀(j:Nat)(d:Array (ay)),b-j<=n->1<=j->b<=d.size->hT p d->cE d->kj a b i s (shiftUp lt b j d).toList J->fX a b i s j d.toList J:=by
 induction n with
 |zero=>
  intro j d ao I ag af ae h;apply kT;unfold shiftUp at h;rw[if_neg (by omega)]at h;rw[if_neg (by omega)];exact h
 |succ n aN=>
  intro j d ao I ag af ae h;have ds:=ae;unfold cE at ds;apply kT;unfold shiftUp at h;by_cases aH:j<b
  .rw [if_pos aH]at h;rw[if_pos (by omega),cW ((j:Int)-1) (j-1) (by omega) (by omega)];refine⟨_,eR (by omega),_,eR (by omega),cP.ite (af _ (by omega)) (af _ (by omega)) ?_⟩;by_cases hl:lt d[j]! d[j-1]! = true
   .rw [if_pos hl];rw[if_neg (by rw[hl];simp)]at h;obtain⟨x,U⟩:=m6 (d:=d) (i:=(j:Int)) (x:=d[j-1]!) (j:=j-1) (by omega);refine⟨x,U,?_⟩;rw[mV,cW ((j:Int)+1) (j+1) (by omega) (by omega)];exact aN (j+1) _ (by omega) (by omega) (by rw[size_swp];exact ag) ((dO.swp (by omega) (by omega)).all p af) (by unfold cE;rw[size_swp];exact ae) h
   .rw [if_neg hl];rw[if_pos (by rw[aM.2 hl];rfl)]at h;exact h
  .rw [if_neg aH]at h;rw[if_neg (by omega)];exact h
omit cP in
def alr{b:Nat}{d:Array (ay)}(n:Nat):∀(i:Nat),b-i<=n->i<=b->i<=scanSorted lt d b i/\scanSorted lt d b i<=b:=by
 induction n with
 |zero=>intro i ao hi;unfold scanSorted;rw[if_neg (by simp;omega)];omega
 |succ n aN=>
  intro i ao hi;unfold scanSorted
  split
  .rename_i h;simp only[Bool.and_eq_true,decide_eq_true_eq]at h;have:=aN (i+1) (by omega) (by omega);omega
  .omega
def steps{a b:Nat}{J:Bool×aL->Prop}(dH:a<b)(s:Nat):∀(i:Nat)(d:Array (ay)),s<=5->a+1<=i->i<=b->b<=d.size->hT p d->cE d->J ((partialIns lt a b s i d).2,(partialIns lt a b s i d).1.toList)->aJ a b i ((5-s:Nat):Int) d.toList J:=by
 induction s with
 |zero=>
  intro i d aj0 hi Ei ag af ae h;apply bE;rw[if_neg (by omega)];exact h
 |succ s aN=>
  intro i d aj0 hi Ei ag af ae h;have ds:=ae;unfold cE at ds;apply bE;rw[if_pos (by omega)];refine scan cP (b-i) i d (aA _) (by omega) Ei ag af ae ?_;have amw:=alr (lt:=lt) (b:=b) (d:=d) (b-i) i (aA _) Ei;rw[partialIns_succ]at h;unfold fixUp fixDown at h;generalize aj:scanSorted lt d b i=k at *;apply oB;by_cases Wk:k=b
  .rw [if_pos (by omega)];rw[if_pos Wk]at h;exact h
  .rw [if_neg (by omega)];rw[if_neg Wk]at h;rw[cW ((b:Int)-a) (b-a) (by omega) (by omega)];by_cases D4:b-a<50
   .rw [if_pos (by omega)];rw[if_pos D4]at h;exact h
   .rw [if_neg (by omega)];rw[if_neg D4]at h;rw[cW ((k:Int)-1) (k-1) (by omega) (by omega),cW ((k:Int)-a) (k-a) (by omega) (by omega)];obtain⟨x,U⟩:=m6 (d:=d) (i:=(k:Int)) (x:=d[k-1]!) (j:=k-1) (by omega);refine⟨_,eR (by omega),_,eR (by omega),x,U,?_⟩;have Be:dO d (swp d k (k-1)):=dO.swp (by omega) (by omega);have fin:∀d2:Array (ay),dO d d2->J ((partialIns lt a b s k (if b-k ≥ 2 then shiftUp lt b (k+1) d2 else d2)).2,(partialIns lt a b s k (if b-k ≥ 2 then shiftUp lt b (k+1) d2 else d2)).1.toList)->js a b k ((5-(s+1):Nat):Int) d2.toList J:=λd2 an h=>by
     have eS:b<=d2.size:=by rw[an.size];exact ag
     have EA:cE d2:=by unfold cE;rw[an.size];exact ae
     have last:∀d3:Array (ay),dO d d3->J ((partialIns lt a b s k d3).2,(partialIns lt a b s k d3).1.toList)->kj a b k ((5-(s+1):Nat):Int) d3.toList J:=λd3 Es h=>by
      apply sR;rw[cW (((5-(s+1):Nat):Int)+1) (5-s) (by omega) (by omega)];exact aN k d3 (by omega) (by omega) (by omega) (by rw[Es.size];exact ag) (Es.all p af) (by unfold cE;rw[Es.size];exact ae) h
     apply uH;rw[cW ((b:Int)-k) (b-k) (by omega) (by omega)];by_cases aa:b-k ≥ 2
     .rw [if_pos (by omega),cW ((k:Int)+1) (k+1) (by omega) (by omega)];rw[if_pos aa]at h;have Es:=QH lt b (b-(k+1)) (k+1) d2 (aA _) (by omega) eS;exact up cP (b-(k+1)) (k+1) d2 (aA _) (by omega) eS (an.all p af) EA (last _ (an.trans Es) h)
     .rw [if_neg (by omega)];rw[if_neg aa]at h;exact last d2 an h
    rw[mV];by_cases aa:k-a ≥ 2
    .rw [if_pos (by omega)];rw[if_pos aa]at h;have g9:=Qf lt (k-1) (swp d k (k-1)) (by rw[size_swp];omega);exact down cP (k-1) _ (by rw[size_swp];omega) (Be.all p af) (by unfold cE;rw[size_swp];exact ae) (fin _ (Be.trans g9) h)
    .rw [if_neg (by omega)];rw[if_neg aa]at h;exact fin _ Be h
def bp{a b:Nat}{d:Array (ay)}(dH:a<b)(ag:b<=d.size)(af:hT p d)(ae:cE d):C a b d.toList ((partialInsertionSort lt d a b).2,(partialInsertionSort lt d a b).1.toList):=by
 have ds:=ae;unfold cE at ds;obtain⟨r,I,aa⟩:=bj a b d.toList (λr=>r=((partialInsertionSort lt d a b).2,(partialInsertionSort lt d a b).1.toList)) (by
  rw[cW ((a:Int)+1) (a+1) (by omega) (by omega)]
  exact steps cP dH 5 (a+1) d (by omega) (by omega) (by omega) ag af ae rfl)
 rw[<-I];exact aa
end E7
end
open Go.Sort
section
variable{p:ay->Prop}{lt:ay->ay->Bool}(cP:Ah p lt jm.C)
include cP
namespace E9
def alJ{a j:Nat}{d:Array (ay)}{J:Int×Bool×aL->Prop}(aC:a<d.size)(aH:j<d.size)(af:hT p d)(ae:cE d)(n:Nat):∀(i:Nat),j+1-i<=n->bm a (scanUp (λx=>lt x d[a]!) d j i) j d.toList J->aJ a i j d.toList J:=by
 unfold cE at ae
 induction n with
 |zero=>
  intro i ao h;apply bE;unfold scanUp at h;rw[if_neg (by simp;omega)]at h;rw[if_neg (by omega)];exact h
 |succ n aN=>
  intro i ao h;apply bE;unfold scanUp at h;by_cases iT:i<=j
  .rw [if_pos (by omega)];refine⟨_,eR (by omega),_,eR aC,cP.ite (af _ (by omega)) (af _ aC) ?_⟩;by_cases hl:lt d[i]! d[a]! = true
   .rw [if_pos hl];rw[if_pos (by simp only[hl,Bool.and_true,decide_eq_true_eq];exact iT)]at h;rw[cW ((i:Int)+1) (i+1) (by omega) (by omega)];exact aN (i+1) (by omega) h
   .rw [if_neg hl];rw[if_neg (by simp[hl])]at h;exact h
  .rw [if_neg (by simp;omega)]at h;rw[if_neg (by omega)];exact h
def agY{a i:Nat}{d:Array (ay)}{J:Int×Bool×aL->Prop}(aC:a<d.size)(hi:1<=i)(af:hT p d)(ae:cE d)(j:Nat):j<d.size->fX a i (scanDown (λx=>!lt x d[a]!) d i j) d.toList J->bm a i j d.toList J:=by
 unfold cE at ae
 induction j with
 |zero=>
  intro aH h;apply cU;rw[if_neg (by omega)];exact h
 |succ j aN=>
  intro aH h;apply cU;have e:scanDown (λx=>!lt x d[a]!) d i (j+1)=if i<=j+1&&!lt d[j+1]! d[a]! then scanDown (λx=>!lt x d[a]!) d i j else j+1:=rfl
  rw[e]at h;by_cases iT:i<=j+1
  .rw [if_pos (by omega)];refine⟨_,eR aH,_,eR aC,cP.ite (af _ aH) (af _ aC) ?_⟩;by_cases hl:lt d[j+1]! d[a]! = true
   .rw [if_pos hl];rw[if_neg (by simp[hl])]at h;exact h
   .rw [if_neg hl];rw[if_pos (by simp[hl,iT])]at h;rw[cW (((j+1:Nat):Int)-1) j (by omega) (by omega)];exact aN (by omega) h
  .rw [if_neg (by simp;omega)]at h;rw[if_neg (by omega)];exact h
def XH{a j:Nat}{d:Array (ay)}{J:Int×Bool×aL->Prop}(aC:a<d.size)(aH:j<d.size)(af:hT p d)(ae:cE d)(n:Nat):∀(i:Nat),j+1-i<=n->js a (scanUp (λx=>lt x d[a]!) d j i) j d.toList J->h5 a i j d.toList J:=by
 unfold cE at ae
 induction n with
 |zero=>
  intro i ao h;apply oB;unfold scanUp at h;rw[if_neg (by simp;omega)]at h;rw[if_neg (by omega)];exact h
 |succ n aN=>
  intro i ao h;apply oB;unfold scanUp at h;by_cases iT:i<=j
  .rw [if_pos (by omega)];refine⟨_,eR (by omega),_,eR aC,cP.ite (af _ (by omega)) (af _ aC) ?_⟩;by_cases hl:lt d[i]! d[a]! = true
   .rw [if_pos hl];rw[if_pos (by simp only[hl,Bool.and_true,decide_eq_true_eq];exact iT)]at h;rw[cW ((i:Int)+1) (i+1) (by omega) (by omega)];exact aN (i+1) (by omega) h
   .rw [if_neg hl];rw[if_neg (by simp[hl])]at h;exact h
  .rw [if_neg (by simp;omega)]at h;rw[if_neg (by omega)];exact h
def Vc{a i:Nat}{d:Array (ay)}{J:Int×Bool×aL->Prop}(aC:a<d.size)(hi:1<=i)(af:hT p d)(ae:cE d)(j:Nat):j<d.size->kj a i (scanDown (λx=>!lt x d[a]!) d i j) d.toList J->js a i j d.toList J:=by
 unfold cE at ae
 induction j with
 |zero=>
  intro aH h;apply uH;rw[if_neg (by omega)];exact h
 |succ j aN=>
  intro aH h;apply uH;have e:scanDown (λx=>!lt x d[a]!) d i (j+1)=if i<=j+1&&!lt d[j+1]! d[a]! then scanDown (λx=>!lt x d[a]!) d i j else j+1:=rfl
  rw[e]at h;by_cases iT:i<=j+1
  .rw [if_pos (by omega)];refine⟨_,eR aH,_,eR aC,cP.ite (af _ aH) (af _ aC) ?_⟩;by_cases hl:lt d[j+1]! d[a]! = true
   .rw [if_pos hl];rw[if_neg (by simp[hl])]at h;exact h
   .rw [if_neg hl];rw[if_pos (by simp[hl,iT])]at h;rw[cW (((j+1:Nat):Int)-1) j (by omega) (by omega)];exact aN (by omega) h
  .rw [if_neg (by simp;omega)]at h;rw[if_neg (by omega)];exact h
def loop{a:Nat}{J:Int×Bool×aL->Prop}(n:Nat):∀(i j:Nat)(d:Array (ay)),j+1-i<=n->a<i->a<d.size->j<d.size->hT p d->cE d->J ((((partLoop lt a i j d).1:Nat):Int),false,(swp (partLoop lt a i j d).2 (partLoop lt a i j d).1 a).toList)->cd a i j d.toList J:=by
 induction n with
 |zero=>
  intro i j d ao ta kq aH af ae h;have ds:=ae;unfold cE at ds;apply fp;refine XH cP (by omega) aH af ae 0 i (by omega) ?_;have M3:scanUp (λx=>lt x d[a]!) d j i=i:=by unfold scanUp;rw[if_neg (by simp;omega)]
  rw[partLoop_eq]at h;rw[M3]at h⊢;refine Vc cP (by omega) (by omega) af ae j aH ?_;have ah:=scanDown_le (λx=>!lt x d[a]!) d i j;generalize scanDown (λx=>!lt x d[a]!) d i j=iq at h ah⊢;apply sR;rw[if_pos (by omega)];rw[if_pos (by omega)]at h;obtain⟨x,U⟩:=m6 (d:=d) (i:=(iq:Int)) (x:=d[a]!) (j:=a) (by omega);refine⟨_,eR (by omega),_,eR (by omega),x,U,?_⟩;rw[mV];exact h
 |succ n aN=>
  intro i j d ao ta kq aH af ae h;have ds:=ae;unfold cE at ds;apply fp;refine XH cP (by omega) aH af ae (j+1-i) i (aA _) ?_;rw[partLoop_eq]at h;have hu:=scanUp_ge (λx=>lt x d[a]!) d j i;generalize scanUp (λx=>lt x d[a]!) d j i=i2 at h hu⊢;refine Vc cP (by omega) (by omega) af ae j aH ?_;have ah:=scanDown_le (λx=>!lt x d[a]!) d i2 j;generalize scanDown (λx=>!lt x d[a]!) d i2 j=iq at h ah⊢;apply sR;by_cases bU:i2 > iq
  .rw [if_pos (by omega)];rw[if_pos bU]at h;obtain⟨x,U⟩:=m6 (d:=d) (i:=(iq:Int)) (x:=d[a]!) (j:=a) (by omega);refine⟨_,eR (by omega),_,eR (by omega),x,U,?_⟩;rw[mV];exact h
  .rw [if_neg (by omega)];rw[if_neg bU]at h;obtain⟨x,U⟩:=m6 (d:=d) (i:=(i2:Int)) (x:=d[iq]!) (j:=iq) (by omega);refine⟨_,eR (by omega),_,eR (by omega),x,U,?_⟩;rw[mV,cW ((i2:Int)+1) (i2+1) (by omega) (by omega),cW ((iq:Int)-1) (iq-1) (by omega) (by omega)];exact aN (i2+1) (iq-1) _ (by omega) (by omega) (by rw[size_swp];omega) (by rw[size_swp];omega) ((dO.swp (by omega) (by omega)).all p af) (by unfold cE;rw[size_swp];exact ae) h
def bp{a b eC:Nat}{d:Array (ay)}(I:a<=eC)(aa:eC<b)(ag:b<=d.size)(af:hT p d)(ae:cE d):C a b eC d.toList ((((partition lt d a b eC).1:Nat):Int),(partition lt d a b eC).2.1,(partition lt d a b eC).2.2.toList):=by
 have ds:=ae;unfold cE at ds;obtain⟨r,aT,a5⟩:=bj a b eC d.toList (λr=>r=((((partition lt d a b eC).1:Nat):Int),(partition lt d a b eC).2.1,(partition lt d a b eC).2.2.toList)) (by
  obtain⟨x,U⟩:=m6 (d:=d) (i:=(a:Int)) (x:=d[eC]!) (j:=eC) (by omega);refine⟨_,eR (by omega),_,eR (by omega),x,U,?_⟩;rw[mV,cW ((a:Int)+1) (a+1) (by omega) (by omega),cW ((b:Int)-1) (b-1) (by omega) (by omega)];have an:dO d (swp d a eC):=dO.swp (by omega) (by omega);have ve:=an.all p af;have iV:cE (swp d a eC):=by unfold cE;rw[size_swp];exact ae
  have aG:(swp d a eC).size=d.size:=size_swp d a eC;unfold partition;simp only;generalize swp d a eC=d1 at *;refine alJ cP (by omega) (by omega) ve iV (b-1+1-(a+1)) (a+1) (aA _) ?_;have hu:=scanUp_ge (λx=>lt x d1[a]!) d1 (b-1) (a+1);generalize scanUp (λx=>lt x d1[a]!) d1 (b-1) (a+1)=i2 at hu⊢;refine agY cP (by omega) (by omega) ve iV (b-1) (by omega) ?_;have ah:=scanDown_le (λx=>!lt x d1[a]!) d1 i2 (b-1);generalize scanDown (λx=>!lt x d1[a]!) d1 i2 (b-1)=iq at ah⊢;apply kT;by_cases bU:i2 > iq
  .rw [if_pos (by omega)];obtain⟨x,U⟩:=m6 (d:=d1) (i:=(iq:Int)) (x:=d1[a]!) (j:=a) (by omega);refine⟨_,eR (by omega),_,eR (by omega),x,U,?_⟩;rw[mV];simp only[if_pos bU]
  .rw [if_neg (by omega)];obtain⟨x,U⟩:=m6 (d:=d1) (i:=(i2:Int)) (x:=d1[iq]!) (j:=iq) (by omega);refine⟨_,eR (by omega),_,eR (by omega),x,U,?_⟩;rw[mV,cW ((i2:Int)+1) (i2+1) (by omega) (by omega),cW ((iq:Int)-1) (iq-1) (by omega) (by omega)]
   exact loop cP (iq-1+1-(i2+1)) (i2+1) (iq-1) _ (aA _) (by omega) (by rw[size_swp];omega) (by rw[size_swp];omega) ((dO.swp (by omega) (by omega)).all p ve) (by unfold cE;rw[size_swp];exact iV) (by simp only[if_neg bU]))
 rw[<-aT];exact a5
end E9
namespace Ff
def up{a j:Nat}{d:Array (ay)}{J:Int×aL->Prop}(aC:a<d.size)(aH:j<d.size)(af:hT p d)(ae:cE d)(n:Nat):∀(i:Nat),j+1-i<=n->cd a (scanUp (λx=>!lt d[a]! x) d j i) j d.toList J->bm a i j d.toList J:=by
 unfold cE at ae
 induction n with
 |zero=>
  intro i ao h;apply cU;unfold scanUp at h;rw[if_neg (by simp;omega)]at h;rw[if_neg (by omega)];exact h
 |succ n aN=>
  intro i ao h;apply cU;unfold scanUp at h;by_cases iT:i<=j
  .rw [if_pos (by omega)];refine⟨_,eR aC,_,eR (by omega),cP.ite (af _ aC) (af _ (by omega)) ?_⟩;by_cases hl:lt d[a]! d[i]! = true
   .rw [if_pos hl];rw[if_neg (by simp[hl])]at h;exact h
   .rw [if_neg hl];rw[if_pos (by simp[hl,iT])]at h;rw[cW ((i:Int)+1) (i+1) (by omega) (by omega)];exact aN (i+1) (by omega) h
  .rw [if_neg (by simp;omega)]at h;rw[if_neg (by omega)];exact h
def down{a i:Nat}{d:Array (ay)}{J:Int×aL->Prop}(aC:a<d.size)(hi:1<=i)(af:hT p d)(ae:cE d)(j:Nat):j<d.size->fX a i (scanDown (λx=>lt d[a]! x) d i j) d.toList J->cd a i j d.toList J:=by
 unfold cE at ae
 induction j with
 |zero=>
  intro aH h;apply fp;rw[if_neg (by omega)];exact h
 |succ j aN=>
  intro aH h;apply fp;have e:scanDown (λx=>lt d[a]! x) d i (j+1)=if i<=j+1&&lt d[a]! d[j+1]! then scanDown (λx=>lt d[a]! x) d i j else j+1:=rfl
  rw[e]at h;by_cases iT:i<=j+1
  .rw [if_pos (by omega)];refine⟨_,eR aC,_,eR aH,cP.ite (af _ aC) (af _ aH) ?_⟩;by_cases hl:lt d[a]! d[j+1]! = true
   .rw [if_pos hl];rw[if_pos (by simp[hl,iT])]at h;rw[cW (((j+1:Nat):Int)-1) j (by omega) (by omega)];exact aN (by omega) h
   .rw [if_neg hl];rw[if_neg (by simp[hl])]at h;exact h
  .rw [if_neg (by simp;omega)]at h;rw[if_neg (by omega)];exact h
def loop{a:Nat}{J:Int×aL->Prop}(n:Nat):∀(i j:Nat)(d:Array (ay)),j+1-i<=n->a<i->a<d.size->j<d.size->hT p d->cE d->J ((((partEqLoop lt a i j d).1:Nat):Int),(partEqLoop lt a i j d).2.toList)->aJ a i j d.toList J:=by
 induction n with
 |zero=>
  intro i j d ao ta kq aH af ae h;have ds:=ae;unfold cE at ds;apply bE;refine up cP (by omega) aH af ae 0 i (by omega) ?_;have M3:scanUp (λx=>!lt d[a]! x) d j i=i:=by unfold scanUp;rw[if_neg (by simp;omega)]
  rw[partEqLoop_eq]at h;rw[M3]at h⊢;refine down cP (by omega) (by omega) af ae j aH ?_;have ah:=scanDown_le (λx=>lt d[a]! x) d i j;generalize scanDown (λx=>lt d[a]! x) d i j=iq at h ah⊢;apply kT;rw[if_pos (by omega)];rw[if_pos (by omega)]at h;exact h
 |succ n aN=>
  intro i j d ao ta kq aH af ae h;have ds:=ae;unfold cE at ds;apply bE;refine up cP (by omega) aH af ae (j+1-i) i (aA _) ?_;rw[partEqLoop_eq]at h;have hu:=scanUp_ge (λx=>!lt d[a]! x) d j i;generalize scanUp (λx=>!lt d[a]! x) d j i=i2 at h hu⊢;refine down cP (by omega) (by omega) af ae j aH ?_;have ah:=scanDown_le (λx=>lt d[a]! x) d i2 j;generalize scanDown (λx=>lt d[a]! x) d i2 j=iq at h ah⊢;apply kT;by_cases bU:i2 > iq
  .rw [if_pos (by omega)];rw[if_pos bU]at h;exact h
  .rw [if_neg (by omega)];rw[if_neg bU]at h;obtain⟨x,U⟩:=m6 (d:=d) (i:=(i2:Int)) (x:=d[iq]!) (j:=iq) (by omega);refine⟨_,eR (by omega),_,eR (by omega),x,U,?_⟩;rw[mV,cW ((i2:Int)+1) (i2+1) (by omega) (by omega),cW ((iq:Int)-1) (iq-1) (by omega) (by omega)];exact aN (i2+1) (iq-1) _ (by omega) (by omega) (by rw[size_swp];omega) (by rw[size_swp];omega) ((dO.swp (by omega) (by omega)).all p af) (by unfold cE;rw[size_swp];exact ae) h
def bp{a b eC:Nat}{d:Array (ay)}(I:a<=eC)(aa:eC<b)(ag:b<=d.size)(af:hT p d)(ae:cE d):C a b eC d.toList ((((partitionEqual lt d a b eC).1:Nat):Int),(partitionEqual lt d a b eC).2.toList):=by
 have ds:=ae;unfold cE at ds;obtain⟨r,aT,a5⟩:=bj a b eC d.toList (λr=>r=((((partitionEqual lt d a b eC).1:Nat):Int),(partitionEqual lt d a b eC).2.toList)) (by
  obtain⟨x,U⟩:=m6 (d:=d) (i:=(a:Int)) (x:=d[eC]!) (j:=eC) (by omega);refine⟨_,eR (by omega),_,eR (by omega),x,U,?_⟩;rw[mV,cW ((a:Int)+1) (a+1) (by omega) (by omega),cW ((b:Int)-1) (b-1) (by omega) (by omega)];have an:dO d (swp d a eC):=dO.swp (by omega) (by omega)
  exact loop cP (b-1+1-(a+1)) (a+1) (b-1) _ (aA _) (by omega) (by rw[size_swp];omega) (by rw[size_swp];omega) (an.all p af) (by unfold cE;rw[size_swp];exact ae) rfl)
 rw[<-aT];exact a5
end Ff
end
open Go.Sort
section
variable{p:Int->Prop}{lt:Int->Int->Bool}(cP:wx p lt vB.C)
include cP
namespace Fb
def inner{a b i:Nat}{J:ay->Prop}(j:Nat):∀(d:Array Int),Ag p d->j<d.size->sS d->cd a b i (insInner lt a j d).toList J->bm a b i j d.toList J:=by
 induction j with
 |zero=>
  intro d af aH ae h;apply cU;rw[if_neg (by omega)];exact h
 |succ j aN=>
  intro d af aH ae h;apply cU;have e:insInner lt a (j+1) d=if j+1 > a&&lt d[j+1]! d[j]! then insInner lt a j (swp d (j+1) j)else d:=rfl
  rw[e]at h;by_cases Ns:a<j+1
  .rw [if_pos (by omega)];rw[vJ (((j+1:Nat):Int)-1) j (by omega) (by unfold sS at ae;omega)];refine⟨_,gg aH,_,gg (by omega),cP.ite (af _ aH) (af _ (by omega)) ?_⟩;by_cases hl:lt d[j+1]! d[j]! = true
   .rw [if_pos hl];rw[if_pos (by rw[hl];simpa using Ns)]at h;obtain⟨x,U⟩:=agF (d:=d) (i:=((j+1:Nat):Int)) (x:=d[j]!) (j:=j) (by omega);refine⟨x,U,?_⟩;rw[agI];exact aN _ ((pr.swp aH (by omega)).all p af) (by rw[size_swp];omega) (by unfold sS;rw[size_swp];exact ae) h
   .rw [if_neg hl];rw[if_neg (by rw[aM.2 hl];simp)]at h;exact h
  .rw [if_neg (by omega)];rw[if_neg (by simp;omega)]at h;exact h
def outer{a b:Nat}{J:ay->Prop}(n:Nat):∀(i:Nat)(d:Array Int),b-i<=n->b<=d.size->Ag p d->sS d->J (insOuter lt a b i d).toList->aJ a b i d.toList J:=by
 induction n with
 |zero=>
  intro i d ao ag af ae h;apply bE;unfold insOuter at h;rw[if_neg (by omega)]at h;rw[if_neg (by omega)];exact h
 |succ n aN=>
  intro i d ao ag af ae h;apply bE;unfold insOuter at h;by_cases hi:i<b
  .rw [if_pos (by omega)];rw[if_pos hi]at h;have an:=QG lt a i d (by omega);refine inner cP i d af (by omega) ae ?_;apply fp;rw[vJ ((i:Int)+1) (i+1) (by omega) (by unfold sS at ae;omega)];exact aN (i+1) _ (by omega) (by rw[an.size];exact ag) (an.all p af) (by unfold sS;rw[an.size];exact ae) h
  .rw [if_neg (by omega)];rw[if_neg hi]at h;exact h
def bp{a b:Nat}{d:Array Int}(dH:a<=b)(ag:b<=d.size)(af:Ag p d)(ae:sS d):C a b d.toList (insertionSort lt d a b).toList:=by
 obtain⟨r,I,aa⟩:=bj a b d.toList (λr=>r=(insertionSort lt d a b).toList) (by
  rw[vJ ((a:Int)+1) (a+1) (by omega) (by unfold sS at ae;omega)]
  exact outer cP (b-(a+1)) (a+1) d (aA _) ag af ae rfl)
 rw[<-I];exact aa
end Fb
end
open Go.Sort
section
variable{p:Int->Prop}{lt:Int->Int->Bool}(cP:wx p lt vB.C)
include cP
namespace alw
end alw
end
open Go.Sort
section
variable{p:Int->Prop}{lt:Int->Int->Bool}(cP:wx p lt vB.C)
include cP
end
def uL(m:Nat):Nat:=if m=0 then 0 else Nat.log2 m+1
def qg(x r:Nat):Prop:=x<2^r/\2^r<=2*x+1
def qg.shift{x k r:Nat}(U:2^k<=x)(h:qg (x / 2^k) r):qg x (r+k):=by
 have aj:0<2^k:=Nat.pow_pos (by omega);have au:1<=x / 2^k:=(Nat.le_div_iff_mul_le aj).2 (by omega);obtain⟨I,aa⟩:=h;have hr:1<=r:=by
  rcases Nat.eq_zero_or_pos r with h|h
  .subst h;simp at I;omega
  .exact h
 obtain⟨s,rfl⟩:∃s,r=s+1:=⟨r-1,by omega⟩
 have e:2^(s+1)=2*2^s:=by rw[Nat.pow_succ];omega
 have ah:=Nat.div_add_mod x (2^k);have hm:=Nat.mod_lt x aj;have a5:2^(s+1+k)=2*(2^k*2^s):=by rw[Nat.pow_add,e,Nat.mul_assoc,Nat.mul_comm (2^s)]
 have aB:2^s<=x / 2^k:=by omega
 have aW:2^k*2^s<=2^k*(x / 2^k):=a6 _ aB;have bO:x / 2^k+1<=2*2^s:=by omega
 have c7:2^k*(x / 2^k+1)<=2^k*(2*2^s):=a6 _ bO;have ez:2^k*(2*2^s)=2*(2^k*2^s):=by rw[Nat.mul_left_comm]
 have eK:2^k*(x / 2^k+1)=2^k*(x / 2^k)+2^k:=by rw[Nat.mul_add,Nat.mul_one]
 unfold qg;rw[a5];omega
namespace Fm
def one{x y:Nat}{J:Int->Prop}(U:x<256)(aw:y<=56)(h:∀r,qg x r->r<=8->J ((y+r:Nat):Int)):aJ x y J:=by
 apply bE;rw[nD (k:=.u8) (n:=x) (by simpa[top]using U)];refine⟨UInt8.ofNat (uL x),⟨by omega,?_⟩,?_⟩
 .rw [Int.toNat_natCast];clear h aw
  revert x
  decide +kernel
 .have dL:uL x<=8/\qg x (uL x):=by
   clear h aw;unfold qg
   revert x
   decide +kernel
  have e:eN (UInt8.ofNat (uL x))=(uL x:Int):=by
   unfold eN;rw[UInt8.toNat_ofNat'];have:=dL.1;omega
  rw[e];have jw:=dL.1;have aT:aV ((uL x:Nat):Int)=((uL x:Nat):Int):=nF (by omega) (by omega);have a5:aV (((y:Nat):Int)+((uL x:Nat):Int))=((y+uL x:Nat):Int):=by rw[nF (by omega) (by omega)];omega
  rw[aT,a5];exact h _ dL.2 dL.1
def bp{x:Nat}(U:x<2^63):∃r:Nat,C x r/\qg x r/\r<=64:=by
 have two:∀(x y:Nat)(J:Int->Prop),x<2^16->y<=48->(∀r,qg x r->r<=16->J ((y+r:Nat):Int))->bm x y J:=λx y J U aw h=>by
  apply cU;by_cases dL:256<=x
  .rw [if_pos (by omega)];have:=ot (k:=.u64) (a:=x) (i:=8) (by simp only[top];omega);rw[show((8:Nat):Int)=8 from rfl]at this;rw[this];have a5:aV (((y:Nat):Int)+8)=((y+8:Nat):Int):=by rw[nF (by omega) (by omega)];omega
   rw[a5];exact one (by omega) (by omega) λr I aa=>by
    have:=h (r+8) (I.shift (by omega)) (by omega)
    rwa [show y+(r+8)=y+8+r by omega]at this
  .rw [if_neg (by omega)];exact one (by omega) (by omega) λr I aa=>h r I (by omega)
 have three:∀(x y:Nat)(J:Int->Prop),x<2^32->y<=32->(∀r,qg x r->r<=32->J ((y+r:Nat):Int))->cd x y J:=λx y J U aw h=>by
  apply fp;by_cases dL:65536<=x
  .rw [if_pos (by omega)];have:=ot (k:=.u64) (a:=x) (i:=16) (by simp only[top];omega);rw[show((16:Nat):Int)=16 from rfl]at this;rw[this];have a5:aV (((y:Nat):Int)+16)=((y+16:Nat):Int):=by rw[nF (by omega) (by omega)];omega
   rw[a5];exact two _ _ _ (by omega) (by omega) λr I aa=>by
    have:=h (r+16) (I.shift (by omega)) (by omega)
    rwa [show y+(r+16)=y+16+r by omega]at this
  .rw [if_neg (by omega)];exact two _ _ _ (by omega) (by omega) λr I aa=>h r I (by omega)
 obtain⟨r,⟨s,rfl,I,aB⟩,aa⟩:=bj x (λr=>∃s:Nat,r=(s:Int)/\qg x s/\s<=64) (by
  by_cases dL:4294967296<=x
  .rw [if_pos (by omega)];have:=ot (k:=.u64) (a:=x) (i:=32) (by simp only[top];omega);rw[show((32:Nat):Int)=32 from rfl]at this;rw[this];exact three _ 32 _ (by omega) (by omega) λr I aa=>⟨32+r,rfl,by have:=I.shift (x:=x) (k:=32) (by omega);rwa [Nat.add_comm]at this,by omega⟩
  .rw [if_neg (by omega)]
   exact three _ 0 _ (by omega) (by omega) λr I aa=>⟨r,by omega,I,by omega⟩)
 exact⟨s,aa,I,aB⟩
end Fm
def tC.bp{x:Nat}(U:x<2^63):∃r:Nat,tC.C x r/\qg x r/\r<=64:=by
 obtain⟨s,c,I,aB⟩:=Fm.bp U;obtain⟨r,e,aa⟩:=tC.bj x (λr=>r=(s:Int)) ⟨_,c,rfl⟩;subst e;exact⟨s,aa,I,aB⟩
end Go.aS
