/- What the functions answer. No conditions. -/
import Derived.Test.YtcbhcnkfefbddaaGreatDoorTopMultivaluedLaw11
set_option linter.all false
open Nat renaming le_refl->aA,and_le_right->aQ
open Int renaming tdiv_eq_ediv_of_nonneg->aM
namespace Go.aS
open Go.Sort
def acz{n:Nat}(aO:1<=n)(ao:n<4611686018427387904):∃m:Nat,Jb.C n m/\1<=m/\m<=2*n:=by
 have e:IntKind.wrap .u64 (n:Int)=n:=by
  rw[show(IntKind.wrap .u64 (n:Int))=(n:Int)%18446744073709551616 from by simp[IntKind.wrap,IntKind.bits,IntKind.signed]];omega
 obtain⟨s,c,I,aB⟩:=tC.bp (x:=n) (by omega);have ae:s<63:=by
  rcases Nat.lt_or_ge s 63 with h|h
  .exact h
  .have:2^63<=2^s:=Nat.pow_le_pow_right (by omega) h;have:=I.2;omega
 obtain⟨r,aT,aa⟩:=Jb.bj n (λr=>r=((2^s:Nat):Int)) (by
  rw[e];refine⟨_,c,by omega,?_⟩
  exact C0 (k:=.u64) (i:=s) (by simp only[top];omega))
 subst aT;have:=I.2;have af:1<=2^s:=Nat.pow_pos (by omega);refine⟨2^s,aa,af,?_⟩;rcases Nat.eq_zero_or_pos s with h|h
 .subst h;simp;omega
 .obtain ⟨q,rfl⟩:∃q,s=q+1:=⟨s-1,by omega⟩
  rw[Nat.pow_succ]at this⊢;omega
def acX{x:Int}:∃r,Jc.C x r:=by
 obtain⟨r,_,h⟩:=Jc.bj x (λ_=>True) trivial;exact⟨r,h⟩
def ac4{a:Int}{m:Nat}(hm:m<2^63):∃q:Nat,dW .u64 a (m:Int)=(q:Int)/\q<=m:=by
 unfold dW;rw[BitVec.toNat_and,ub (k:=.u64) (n:=m) (by simp only[top];omega)];refine⟨_,nD (k:=.u64) ?_,aQ⟩;have:=aQ (n:=(BitVec.ofInt IntKind.u64.bits a).toNat) (m:=m);simp only[top];omega
namespace Fp
def loop{a b md:Nat}{d0:Array (ay)}{J:aL->Prop}(dL:a+8<=b)(ag:b<=d0.size)(ae:cE d0)(Wu:1<=md)(hm:md<=2*(b-a))(h:∀R,PermIn a b d0 R->J R.toList)(n:Nat):∀(i:Nat)(y:Int)(d:Array (ay)),a+(b-a) / 4*2+2-i<=n->a<=i->PermIn a b d0 d->aJ a (b-a:Nat) y md i d.toList J:=by
 unfold cE at ae;have eK:Int.tdiv ((b-a:Nat):Int) 4=(((b-a) / 4:Nat):Int):=by
  rw[aM (by omega)];omega
 induction n with
 |zero=>
  intro i y d ao hi af;apply bE;rw[eK,cW (((b-a) / 4:Nat):Int) ((b-a) / 4) rfl (by omega),cW ((((b-a) / 4:Nat):Int)*2) ((b-a) / 4*2) (by omega) (by omega),cW ((a:Int)+(((b-a) / 4*2:Nat):Int)) (a+(b-a) / 4*2) (by omega) (by omega),cW (((a+(b-a) / 4*2:Nat):Int)+1) (a+(b-a) / 4*2+1) (by omega) (by omega)];rw[if_neg (by omega)];exact h d af
 |succ n aN=>
  intro i y d ao hi af;have aG:d.size=d0.size:=af.1;apply bE;rw[eK,cW (((b-a) / 4:Nat):Int) ((b-a) / 4) rfl (by omega),cW ((((b-a) / 4:Nat):Int)*2) ((b-a) / 4*2) (by omega) (by omega),cW ((a:Int)+(((b-a) / 4*2:Nat):Int)) (a+(b-a) / 4*2) (by omega) (by omega),cW (((a+(b-a) / 4*2:Nat):Int)+1) (a+(b-a) / 4*2+1) (by omega) (by omega)];by_cases hle:i<=a+(b-a) / 4*2+1
  .rw [if_pos (by omega)];obtain⟨r,c⟩:=acX (x:=y);refine⟨r,c,?_⟩;have ahn:IntKind.wrap .u64 ((md:Int)-1)=((md-1:Nat):Int):=by
    rw[show(md:Int)-1=((md-1:Nat):Int) by omega];exact nD (k:=.u64) (by simp only[top];omega)
   rw[ahn];obtain⟨q,au,amu⟩:=ac4 (a:=r.1) (m:=md-1) (by omega);rw[au,cW (q:Int) q rfl (by omega)];have two:∀o:Nat,o<b-a->bm a (b-a:Nat) r md i o d.toList J:=λo an=>by
    apply cU;rw[cW ((a:Int)+o) (a+o) (by omega) (by omega),cW ((i:Int)+1) (i+1) (by omega) (by omega)];obtain⟨x,U⟩:=m6 (d:=d) (i:=(i:Int)) (x:=d[a+o]!) (j:=a+o) (by omega);refine⟨_,eR (by omega),_,eR (by omega),x,U,?_⟩;rw[mV];exact aN (i+1) _ _ (by omega) (by omega) (permIn_trans _ _ _ a b af (swp_permIn d a b i (a+o) (by omega) (by omega) (by omega) (by omega) (by omega)))
   split
   .rw [cW ((q:Int)-((b-a:Nat):Int)) (q-(b-a)) (by omega) (by omega)];exact two _ (by omega)
   .exact two _ (by omega)
  .rw [if_neg (by omega)];exact h d af
def bp{a b:Nat}{d:Array (ay)}(dL:a+8<=b)(ag:b<=d.size)(ae:cE d):∃R,C a b d.toList R.toList/\PermIn a b d R:=by
 have ds:=ae;unfold cE at ds;obtain⟨r,⟨R,rfl,I⟩,aa⟩:=bj a b d.toList (λr=>∃R:Array (ay),r=R.toList/\PermIn a b d R) (by
  have eK:Int.tdiv ((b-a:Nat):Int) 4=(((b-a) / 4:Nat):Int):=by
   rw[aM (by omega)];omega
  rw[cW ((b:Int)-a) (b-a) (by omega) (by omega),if_pos (by omega)];obtain⟨m,c,h1,hD⟩:=acz (n:=b-a) (by omega) (by omega);refine⟨_,c,?_⟩;rw[eK,cW (((b-a) / 4:Nat):Int) ((b-a) / 4) rfl (by omega),cW ((((b-a) / 4:Nat):Int)*2) ((b-a) / 4*2) (by omega) (by omega),cW ((a:Int)+(((b-a) / 4*2:Nat):Int)) (a+(b-a) / 4*2) (by omega) (by omega),cW (((a+(b-a) / 4*2:Nat):Int)-1) (a+(b-a) / 4*2-1) (by omega) (by omega)]
  exact loop dL ag ae h1 hD (λR cQ=>⟨R,rfl,cQ⟩) (a+(b-a) / 4*2+2) _ _ _ (by omega) (by omega) (permIn_refl d a b))
 exact⟨R,aa,I⟩
end Fp
section
variable{p:ay->Prop}{lt:ay->ay->Bool}(cP:Ah p lt jm.C)(cR:SWO lt)
include cP cR
namespace xw
def loop(n:Nat):∀(a b:Nat)(OU:Int)(sr wp:Bool)(d:Array (ay))(J:aL->Prop),b-a<=n->a<=b->b<=d.size->cE d->hT p d->Below lt a b d->(∀R,PermIn a b d R->SortedIn lt a b R->J R.toList)->aJ a b OU sr wp d.toList J:=by
 induction n using Nat.strongRecOn with
 |_ n aN=>
  intro a b OU sr wp d J ao dH ag ae af cg h;have ds:=ae;unfold cE at ds;apply bE;rw[cW ((b:Int)-a) (b-a) (by omega) (by omega)];by_cases lY:b-a<=12
  .rw [if_pos (by omega)];have hi:=insertionSort_holds (lt:=lt) cR d a b dH ag;exact⟨_,Fo.bp cP dH ag af ae,h _ hi.1 hi.2⟩
  rw[if_neg (by omega)];by_cases hl:OU=0
  .rw [if_pos hl];have hi:=heapSort_holds (lt:=lt) cR d a b dH ag;exact⟨_,E_.bp cP (by omega) ag af ae,h _ hi.1 hi.2⟩
  rw[if_neg hl];have l2:∀(eC:Nat)(jA:Int)(d3:Array (ay)),PermIn a b d d3->a<=eC->eC<b->bm a b jA eC d3.toList J:=λeC jA d3 m2 dk ea=>by
   have aG:d3.size=d.size:=m2.1;have EB:cE d3:=by unfold cE;omega
   have an:dO d d3:=dO.perm ag m2;apply cU;refine⟨_,E9.bp cP dk ea (by omega) (an.all p af) EB,?_⟩;rcases U:partition lt d3 a b eC with⟨jN,ap,d4⟩
   obtain⟨c5,eo,h9,n2,HY,ahM,ahP⟩:=round_part cR (partition_holds (lt:=lt)) dk ea (by omega) (cg.perm ag m2) U;have Bf:dO d d4:=by
    have:=(partition_holds (lt:=lt) cR d3 a b eC dk ea (by omega)).2.2.1;rw[U]at this;exact an.trans (dO.perm (by omega) this)
   have vg:cE d4:=by unfold cE;omega
   simp only;rw[cW ((jN:Int)-a) (jN-a) (by omega) (by omega),cW ((b:Int)-jN) (b-jN) (by omega) (by omega),cW ((jN:Int)+1) (jN+1) (by omega) (by omega)]
   split
   .obtain ⟨r,⟨R,rfl,b_,cM⟩,c⟩:=bj a jN jA d4.toList (λr=>∃R:Array (ay),r=R.toList/\PermIn a jN d4 R/\SortedIn lt a jN R) (aN (jN-a) (by omega) a jN jA true true d4 _ (aA _) c5 (by omega) vg (Bf.all p af) n2 λR I aa=>⟨R,rfl,I,aa⟩);refine⟨_,c,?_⟩;obtain⟨b9,k2⟩:=ahM R b_ cM;have y4:dO d R:=Bf.trans (dO.perm (by omega) b_);refine aN (b-(jN+1)) (by omega) (jN+1) b jA _ _ R J (aA _) (by omega) (by rw[y4.size];exact ag) (by unfold cE;rw[y4.size];exact ae) (y4.all p af) b9 λDy I aa=>?_;obtain⟨h1,hD⟩:=k2 Dy I aa;exact h Dy (permIn_trans _ _ _ a b m2 h1) hD
   .obtain ⟨r,⟨R,rfl,b_,cM⟩,c⟩:=bj ((jN+1:Nat):Int) b jA d4.toList (λr=>∃R:Array (ay),r=R.toList/\PermIn (jN+1) b d4 R/\SortedIn lt (jN+1) b R) (aN (b-(jN+1)) (by omega) (jN+1) b jA true true d4 _ (aA _) (by omega) (by omega) vg (Bf.all p af) HY λR I aa=>⟨R,rfl,I,aa⟩);refine⟨_,c,?_⟩;obtain⟨b9,k2⟩:=ahP R b_ cM;have y4:dO d R:=Bf.trans (dO.perm (by omega) b_);refine aN (jN-a) (by omega) a jN jA _ _ R J (aA _) c5 (by rw[y4.size];omega) (by unfold cE;rw[y4.size];exact ae) (y4.all p af) b9 λDy I aa=>?_;obtain⟨h1,hD⟩:=k2 Dy I aa;exact h Dy (permIn_trans _ _ _ a b m2 h1) hD
  have r6:∀(eC:Nat)(jA:Int)(sr wp:Bool)(d3:Array (ay)),PermIn a b d d3->a<=eC->eC<b->cd a b jA sr wp eC d3.toList J:=λeC jA sr wp d3 m2 dk ea=>by
   have aG:d3.size=d.size:=m2.1;have EB:cE d3:=by unfold cE;omega
   have an:dO d d3:=dO.perm ag m2;have Bg:=an.all p af;apply fp;by_cases aC:0<a
   .rw [if_pos (by omega),cW ((a:Int)-1) (a-1) (by omega) (by omega)];refine⟨_,eR (by omega),_,eR (by omega),cP.ite (Bg _ (by omega)) (Bg _ (by omega)) ?_⟩;by_cases bU:lt d3[a-1]! d3[eC]! = true
    .rw [if_pos bU];exact l2 eC jA d3 m2 dk ea
    .rw [if_neg bU];have Wz:=Bool.eq_false_iff.2 bU;refine⟨_,Ff.bp cP dk ea (by omega) Bg EB,?_⟩;rcases U:partitionEqual lt d3 a b eC with⟨jN,d4⟩
     obtain⟨c5,eo,h9,n2,ahL⟩:=round_eq cR (partitionEqual_holds (lt:=lt)) aC dk ea (by omega) (cg.perm ag m2) Wz U;have Bf:dO d d4:=by
      have gz:∀i,a<=i->i<b->lt d3[i]! d3[eC]! = false:=λi hi hi'=>by
       rcases cg.perm ag m2 with aO|ah3
       .omega
       .exact cR.ntrans _ _ _ (ah3 i hi hi') Wz
      have:=(partitionEqual_holds (lt:=lt) cR d3 a b eC dk ea (by omega) gz).2.2.1;rw[U]at this;exact an.trans (dO.perm (by omega) this)
     simp only;refine aN (b-jN) (by omega) jN b jA _ _ d4 J (aA _) eo (by omega) (by unfold cE;omega) (Bf.all p af) n2 λR I aa=>?_;obtain⟨h1,hD⟩:=ahL R I aa;exact h R (permIn_trans _ _ _ a b m2 h1) hD
   .rw [if_neg (by omega)];exact l2 eC jA d3 m2 dk ea
  have ES:∀(eC:Nat)(hint jA:Int)(sr wp:Bool)(d2:Array (ay)),PermIn a b d d2->a<=eC->eC<b->fX a b jA sr wp eC hint d2.toList J:=λeC hint jA sr wp d2 yt dk ea=>by
   have aG:d2.size=d.size:=yt.1;have EA:cE d2:=by unfold cE;omega
   have an:dO d d2:=dO.perm ag yt;apply kT
   split
   .split
    .split
     .have Iy:=partialInsertionSort_holds (lt:=lt) cR d2 a b (by omega) (by omega) (cg.perm ag yt);refine⟨_,E7.bp cP (by omega) (by omega) (an.all p af) EA,?_⟩;have m2:=permIn_trans _ _ _ a b yt Iy.1
      split
      .rename_i al;exact h _ m2 (Iy.2 al)
      .exact r6 eC jA _ _ _ m2 dk ea
     .exact r6 eC jA _ _ _ yt dk ea
    .exact r6 eC jA _ _ _ yt dk ea
   .exact r6 eC jA _ _ _ yt dk ea
  have W6:∀(jA:Int)(sr wp:Bool)(d1:Array (ay)),PermIn a b d d1->h5 a b jA sr wp d1.toList J:=λjA sr wp d1 Hs=>by
   have aG:d1.size=d.size:=Hs.1;have iV:cE d1:=by unfold cE;omega
   have an:dO d d1:=dO.perm ag Hs;apply oB;obtain⟨r,c,m,e,h1,hD⟩:=tE.bp cP (a:=a) (b:=b) (an.all p af) iV (by omega) (by omega);refine⟨r,c,?_⟩
   split
   .have hr:=reverseRange_holds (α:=ay) d1 a b dH (by omega);refine⟨_,sm.bp (by omega) (by omega) iV,?_⟩;rw[e,cW ((m:Int)-a) (m-a) (by omega) (by omega),cW ((b:Int)-1) (b-1) (by omega) (by omega),cW (((b-1:Nat):Int)-((m-a:Nat):Int)) (b-1-(m-a)) (by omega) (by omega)];exact ES _ _ _ _ _ _ (permIn_trans _ _ _ a b Hs hr) (by omega) (by omega)
   .rw [e];exact ES _ _ _ _ _ _ Hs h1 hD
  split
  .exact W6 _ _ _ _ (permIn_refl d a b)
  .obtain ⟨R,c,cQ⟩:=Fp.bp (a:=a) (b:=b) (d:=d) (by omega) ag ae;exact⟨_,c,W6 _ _ _ _ cQ⟩
end xw
def BI.bp{l:aL}(hl:l.length<4611686018427387904)(af:∀x∈l,p x):∃r,BI.C l r/\r.Perm l/\r.Pairwise (λa b=>lt b a=false):=by
 obtain⟨r,⟨R,rfl,I,aa⟩,aB⟩:=BI.bj l (λr=>∃R:Array (ay),r=R.toList/\PermIn 0 l.length l.toArray R/\SortedIn lt 0 l.length R) (by
  have e:IntKind.wrap .u64 (l.length:Int)=(l.length:Int):=by
   rw[show(IntKind.wrap .u64 (l.length:Int))=(l.length:Int)%18446744073709551616 from by simp[IntKind.wrap,IntKind.bits,IntKind.signed]];omega
  rw[e];obtain⟨s,c,_,_⟩:=tC.bp (x:=l.length) (by omega);refine⟨_,c,?_⟩;obtain⟨r,⟨R,rfl,b_,cM⟩,ck⟩:=xw.bj 0 (l.length:Int) s l (λr=>∃R:Array (ay),r=R.toList/\PermIn 0 l.length l.toArray R/\SortedIn lt 0 l.length R) (by
   have:=xw.loop cP cR l.length 0 l.length s true true l.toArray (λr=>∃R:Array (ay),r=R.toList/\PermIn 0 l.length l.toArray R/\SortedIn lt 0 l.length R) (by omega) (by omega) (by simp) (by unfold cE;simpa using hl) (λi hi=>by
    have hi':i<l.length:=by simpa using hi
    rw[getElem!_pos l.toArray i hi]
    exact af _ (by simp)) (Or.inl rfl) λR I aa=>⟨R,rfl,I,aa⟩
   simpa using this)
  exact⟨_,ck,R,rfl,b_,cM⟩)
 refine⟨_,aB,?_,?_⟩
 .have:=I.2.2;have aG:R.size=l.length:=by simpa using I.1
  have aT:(R.extract 0 l.length).toList=R.toList:=by
   rw[<-aG,Array.extract_size]
  have a5:(l.toArray.extract 0 l.length).toList=l:=by simp
  rwa [aT,a5]at this
 .have aG:R.size=l.length:=by simpa using I.1
  rw[List.pairwise_iff_getElem];intro i j hi aH iT;have hi':i<R.size:=by simpa using hi
  have yY:j<R.size:=by simpa using aH
  have:=aa i j (by omega) iT (by omega);rw[getElem!_pos R i hi',getElem!_pos R j yY]at this;simpa using this
end
open Go.Sort
section
variable{p:Int->Prop}{lt:Int->Int->Bool}(cP:wx p lt vB.C)(cR:SWO lt)
include cP cR
end
end Go.aS
