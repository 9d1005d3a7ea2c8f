/- What the functions answer. No conditions. -/
import Derived.Test.YtockohmmmlhhfabGreatDoorTopTranslationsLaw9
import Derived.Test.YtockohmmmlhhfabGreatDoorTopTranslationsLaw10
set_option linter.all false
namespace Go.Own
open Go.Sort
theorem q37_.spec {n:Nat} (h0:1<=n) (hn:n<4611686018427387904):∃ m:Nat,q37_.C n m/\1<=m/\m<=2*n:=by
 have e:IntKind.wrap .u64 (n:Int)=n:=by
  rw [show (IntKind.wrap .u64 (n:Int))=(n:Int) % 18446744073709551616 from by simp [IntKind.wrap,IntKind.bits,IntKind.signed]];omega
 obtain ⟨s,c,h1,h3⟩:=q78_.spec (x:=n) (by omega);have hs:s<63:=by
  rcases Nat.lt_or_ge s 63 with h | h
  ·exact h
  ·have:2^63<=2^s:=Nat.pow_le_pow_right (by omega) h;have:=h1.2;omega
 obtain ⟨r,e1,h2⟩:=q37_.enter n (fun r=>r=((2^s:Nat):Int)) (by
  rw [e];refine ⟨_,c,by omega,?_⟩
  exact Bba (k:=.u64) (i:=s) (by simp only [top];omega))
 subst e1;have:=h1.2;have hp:1<=2^s:=Nat.pow_pos (by omega);refine ⟨2^s,h2,hp,?_⟩;rcases Nat.eq_zero_or_pos s with h | h
 ·subst h;simp;omega
 ·obtain ⟨q,rfl⟩:∃ q,s=q+1:=⟨s-1,by omega⟩
  rw [Nat.pow_succ] at this ⊢;omega
theorem q41_.spec {x:Int}:∃ r,q41_.C x r:=by
 obtain ⟨r,_,h⟩:=q41_.enter x (fun _=>True) trivial;exact ⟨r,h⟩
theorem Bbt {a:Int} {m:Nat} (hm:m<2^63):∃ q:Nat,bAnd .u64 a (m:Int)=(q:Int)/\q<=m:=by
 unfold bAnd;rw [BitVec.toNat_and,An7 (k:=.u64) (n:=m) (by simp only [top];omega)];refine ⟨_,Ag0 (k:=.u64) ?_,Nat.and_le_right⟩;have:=Nat.and_le_right (n:=(BitVec.ofInt IntKind.u64.bits a).toNat) (m:=m);simp only [top];omega
namespace q4_
theorem loop {a b md:Nat} {d0:Array (List Int)} {φ:List (List Int)->Prop} (h8:a+8<=b) (hb:b<=d0.size) (hs:SzAL d0) (hm1:1<=md) (hm:md<=2*(b-a)) (h:∀ R,PermIn a b d0 R->φ R.toList) (n:Nat):∀ (i:Nat) (y:Int) (d:Array (List Int)),a+(b-a) / 4*2+2-i<=n->a<=i->PermIn a b d0 d->L1 a (b-a:Nat) y md i d.toList φ:=by
 unfold SzAL at hs;have e4:Int.tdiv ((b-a:Nat):Int) 4=(((b-a) / 4:Nat):Int):=by
  rw [Int.tdiv_eq_ediv_of_nonneg (by omega)];omega
 induction n with
 | zero=>
  intro i y d hn hi hp;apply L1_step;rw [e4,wxL (((b-a) / 4:Nat):Int) ((b-a) / 4) rfl (by omega),wxL ((((b-a) / 4:Nat):Int)*2) ((b-a) / 4*2) (by omega) (by omega),wxL ((a:Int)+(((b-a) / 4*2:Nat):Int)) (a+(b-a) / 4*2) (by omega) (by omega),wxL (((a+(b-a) / 4*2:Nat):Int)+1) (a+(b-a) / 4*2+1) (by omega) (by omega)];rw [if_neg (by omega)];exact h d hp
 | succ n ih=>
  intro i y d hn hi hp;have hz:d.size=d0.size:=hp.1;apply L1_step;rw [e4,wxL (((b-a) / 4:Nat):Int) ((b-a) / 4) rfl (by omega),wxL ((((b-a) / 4:Nat):Int)*2) ((b-a) / 4*2) (by omega) (by omega),wxL ((a:Int)+(((b-a) / 4*2:Nat):Int)) (a+(b-a) / 4*2) (by omega) (by omega),wxL (((a+(b-a) / 4*2:Nat):Int)+1) (a+(b-a) / 4*2+1) (by omega) (by omega)];by_cases hle:i<=a+(b-a) / 4*2+1
  ·rw [if_pos (by omega)];obtain ⟨r,c⟩:=q41_.spec (x:=y);refine ⟨r,c,?_⟩;have ew:IntKind.wrap .u64 ((md:Int)-1)=((md-1:Nat):Int):=by
    rw [show (md:Int)-1=((md-1:Nat):Int) by omega];exact Ag0 (k:=.u64) (by simp only [top];omega)
   rw [ew];obtain ⟨q,hq,hqm⟩:=Bbt (a:=r.1) (m:=md-1) (by omega);rw [hq,wxL (q:Int) q rfl (by omega)];have two:∀ o:Nat,o<b-a->L2 a (b-a:Nat) r md i o d.toList φ:=fun o ho=>by
    apply L2_step;rw [wxL ((a:Int)+o) (a+o) (by omega) (by omega),wxL ((i:Int)+1) (i+1) (by omega) (by omega)];obtain ⟨x,hx⟩:=agSL (d:=d) (i:=(i:Int)) (x:=d[a+o]!) (j:=a+o) (by omega);refine ⟨_,agL (by omega),_,agL (by omega),x,hx,?_⟩;rw [Adw];exact ih (i+1) _ _ (by omega) (by omega) (permIn_trans _ _ _ a b hp (swp_permIn d a b i (a+o) (by omega) (by omega) (by omega) (by omega) (by omega)))
   split
   ·rw [wxL ((q:Int)-((b-a:Nat):Int)) (q-(b-a)) (by omega) (by omega)];exact two _ (by omega)
   ·exact two _ (by omega)
  ·rw [if_neg (by omega)];exact h d hp
theorem spec {a b:Nat} {d:Array (List Int)} (h8:a+8<=b) (hb:b<=d.size) (hs:SzAL d):∃ R,C a b d.toList R.toList/\PermIn a b d R:=by
 have hs':=hs;unfold SzAL at hs';obtain ⟨r,⟨R,rfl,h1⟩,h2⟩:=enter a b d.toList (fun r=>∃ R:Array (List Int),r=R.toList/\PermIn a b d R) (by
  have e4:Int.tdiv ((b-a:Nat):Int) 4=(((b-a) / 4:Nat):Int):=by
   rw [Int.tdiv_eq_ediv_of_nonneg (by omega)];omega
  rw [wxL ((b:Int)-a) (b-a) (by omega) (by omega),if_pos (by omega)];obtain ⟨m,c,m1,m2⟩:=q37_.spec (n:=b-a) (by omega) (by omega);refine ⟨_,c,?_⟩;rw [e4,wxL (((b-a) / 4:Nat):Int) ((b-a) / 4) rfl (by omega),wxL ((((b-a) / 4:Nat):Int)*2) ((b-a) / 4*2) (by omega) (by omega),wxL ((a:Int)+(((b-a) / 4*2:Nat):Int)) (a+(b-a) / 4*2) (by omega) (by omega),wxL (((a+(b-a) / 4*2:Nat):Int)-1) (a+(b-a) / 4*2-1) (by omega) (by omega)]
  exact loop h8 hb hs m1 m2 (fun R hR=>⟨R,rfl,hR⟩) (a+(b-a) / 4*2+2) _ _ _ (by omega) (by omega) (permIn_refl d a b))
 exact ⟨R,h2,h1⟩
end q4_
section
variable {p:List Int->Prop} {lt:List Int->List Int->Bool} (hC:Ak7 p lt q30_.C) (hS:SWO lt)
include hC hS
namespace q14_
theorem loop (n:Nat):∀ (a b:Nat) (limit:Int) (wb wp:Bool) (d:Array (List Int)) (φ:List (List Int)->Prop),b-a<=n->a<=b->b<=d.size->SzAL d->Abp p d->Below lt a b d->(∀ R,PermIn a b d R->SortedIn lt a b R->φ R.toList)->L1 a b limit wb wp d.toList φ:=by
 induction n using Nat.strongRecOn with
 | _ n ih=>
  intro a b limit wb wp d φ hn hab hb hs hp hB h;have hs':=hs;unfold SzAL at hs';apply L1_step;rw [wxL ((b:Int)-a) (b-a) (by omega) (by omega)];by_cases h12:b-a<=12
  ·rw [if_pos (by omega)];have hi:=insertionSort_holds (lt:=lt) hS d a b hab hb;exact ⟨_,q3_.spec hC hab hb hp hs,h _ hi.1 hi.2⟩
  rw [if_neg (by omega)];by_cases hl:limit=0
  ·rw [if_pos hl];have hi:=heapSort_holds (lt:=lt) hS d a b hab hb;exact ⟨_,q12_.spec hC (by omega) hb hp hs,h _ hi.1 hi.2⟩
  rw [if_neg hl];have l2:∀ (pv:Nat) (lim:Int) (d3:Array (List Int)),PermIn a b d d3->a<=pv->pv<b->L2 a b lim pv d3.toList φ:=fun pv lim d3 P3 p1 p2=>by
   have hz:d3.size=d.size:=P3.1;have hs3:SzAL d3:=by unfold SzAL;omega
   have ho:OkdL d d3:=OkdL.perm hb P3;apply L2_step;refine ⟨_,q8_.spec hC p1 p2 (by omega) (ho.all p hp) hs3,?_⟩;rcases hx:partition lt d3 a b pv with ⟨mid,ap,d4⟩
   obtain ⟨g1,g2,g3,g4,g5,gl,gr⟩:=round_part hS (partition_holds (lt:=lt)) p1 p2 (by omega) (hB.perm hb P3) hx;have ho4:OkdL d d4:=by
    have:=(partition_holds (lt:=lt) hS d3 a b pv p1 p2 (by omega)).2.2.1;rw [hx] at this;exact ho.trans (OkdL.perm (by omega) this)
   have hs4:SzAL d4:=by unfold SzAL;omega
   simp only;rw [wxL ((mid:Int)-a) (mid-a) (by omega) (by omega),wxL ((b:Int)-mid) (b-mid) (by omega) (by omega),wxL ((mid:Int)+1) (mid+1) (by omega) (by omega)]
   split
   ·obtain ⟨r,⟨R,rfl,q1,q2⟩,c⟩:=enter a mid lim d4.toList (fun r=>∃ R:Array (List Int),r=R.toList/\PermIn a mid d4 R/\SortedIn lt a mid R) (ih (mid-a) (by omega) a mid lim true true d4 _ (Nat.le_refl _) g1 (by omega) hs4 (ho4.all p hp) g4 fun R h1 h2=>⟨R,rfl,h1,h2⟩);refine ⟨_,c,?_⟩;obtain ⟨k1,k2⟩:=gl R q1 q2;have hoR:OkdL d R:=ho4.trans (OkdL.perm (by omega) q1);refine ih (b-(mid+1)) (by omega) (mid+1) b lim _ _ R φ (Nat.le_refl _) (by omega) (by rw [hoR.size];exact hb) (by unfold SzAL;rw [hoR.size];exact hs) (hoR.all p hp) k1 fun R2 h1 h2=>?_;obtain ⟨m1,m2⟩:=k2 R2 h1 h2;exact h R2 (permIn_trans _ _ _ a b P3 m1) m2
   ·obtain ⟨r,⟨R,rfl,q1,q2⟩,c⟩:=enter ((mid+1:Nat):Int) b lim d4.toList (fun r=>∃ R:Array (List Int),r=R.toList/\PermIn (mid+1) b d4 R/\SortedIn lt (mid+1) b R) (ih (b-(mid+1)) (by omega) (mid+1) b lim true true d4 _ (Nat.le_refl _) (by omega) (by omega) hs4 (ho4.all p hp) g5 fun R h1 h2=>⟨R,rfl,h1,h2⟩);refine ⟨_,c,?_⟩;obtain ⟨k1,k2⟩:=gr R q1 q2;have hoR:OkdL d R:=ho4.trans (OkdL.perm (by omega) q1);refine ih (mid-a) (by omega) a mid lim _ _ R φ (Nat.le_refl _) g1 (by rw [hoR.size];omega) (by unfold SzAL;rw [hoR.size];exact hs) (hoR.all p hp) k1 fun R2 h1 h2=>?_;obtain ⟨m1,m2⟩:=k2 R2 h1 h2;exact h R2 (permIn_trans _ _ _ a b P3 m1) m2
  have l3:∀ (pv:Nat) (lim:Int) (wb wp:Bool) (d3:Array (List Int)),PermIn a b d d3->a<=pv->pv<b->L3 a b lim wb wp pv d3.toList φ:=fun pv lim wb wp d3 P3 p1 p2=>by
   have hz:d3.size=d.size:=P3.1;have hs3:SzAL d3:=by unfold SzAL;omega
   have ho:OkdL d d3:=OkdL.perm hb P3;have hp3:=ho.all p hp;apply L3_step;by_cases ha:0<a
   ·rw [if_pos (by omega),wxL ((a:Int)-1) (a-1) (by omega) (by omega)];refine ⟨_,agL (by omega),_,agL (by omega),hC.ite (hp3 _ (by omega)) (hp3 _ (by omega)) ?_⟩;by_cases hlt:lt d3[a-1]! d3[pv]! = true
    ·rw [if_pos hlt];exact l2 pv lim d3 P3 p1 p2
    ·rw [if_neg hlt];have hnl:=Bool.eq_false_iff.2 hlt;refine ⟨_,q1_.spec hC p1 p2 (by omega) hp3 hs3,?_⟩;rcases hx:partitionEqual lt d3 a b pv with ⟨mid,d4⟩
     obtain ⟨g1,g2,g3,g4,gf⟩:=round_eq hS (partitionEqual_holds (lt:=lt)) ha p1 p2 (by omega) (hB.perm hb P3) hnl hx;have ho4:OkdL d d4:=by
      have hge:∀ i,a<=i->i<b->lt d3[i]! d3[pv]! = false:=fun i hi hi'=>by
       rcases hB.perm hb P3 with h0 | hB3
       ·omega
       ·exact hS.ntrans _ _ _ (hB3 i hi hi') hnl
      have:=(partitionEqual_holds (lt:=lt) hS d3 a b pv p1 p2 (by omega) hge).2.2.1;rw [hx] at this;exact ho.trans (OkdL.perm (by omega) this)
     simp only;refine ih (b-mid) (by omega) mid b lim _ _ d4 φ (Nat.le_refl _) g2 (by omega) (by unfold SzAL;omega) (ho4.all p hp) g4 fun R h1 h2=>?_;obtain ⟨m1,m2⟩:=gf R h1 h2;exact h R (permIn_trans _ _ _ a b P3 m1) m2
   ·rw [if_neg (by omega)];exact l2 pv lim d3 P3 p1 p2
  have l4:∀ (pv:Nat) (hint lim:Int) (wb wp:Bool) (d2:Array (List Int)),PermIn a b d d2->a<=pv->pv<b->L4 a b lim wb wp pv hint d2.toList φ:=fun pv hint lim wb wp d2 P2 p1 p2=>by
   have hz:d2.size=d.size:=P2.1;have hs2:SzAL d2:=by unfold SzAL;omega
   have ho:OkdL d d2:=OkdL.perm hb P2;apply L4_step
   split
   ·split
    ·split
     ·have hpi:=partialInsertionSort_holds (lt:=lt) hS d2 a b (by omega) (by omega) (hB.perm hb P2);refine ⟨_,q0_.spec hC (by omega) (by omega) (ho.all p hp) hs2,?_⟩;have P3:=permIn_trans _ _ _ a b P2 hpi.1
      split
      ·rename_i ht;exact h _ P3 (hpi.2 ht)
      ·exact l3 pv lim _ _ _ P3 p1 p2
     ·exact l3 pv lim _ _ _ P2 p1 p2
    ·exact l3 pv lim _ _ _ P2 p1 p2
   ·exact l3 pv lim _ _ _ P2 p1 p2
  have l5:∀ (lim:Int) (wb wp:Bool) (d1:Array (List Int)),PermIn a b d d1->L5 a b lim wb wp d1.toList φ:=fun lim wb wp d1 P1=>by
   have hz:d1.size=d.size:=P1.1;have hs1:SzAL d1:=by unfold SzAL;omega
   have ho:OkdL d d1:=OkdL.perm hb P1;apply L5_step;obtain ⟨r,c,m,e,m1,m2⟩:=q6_.spec hC (a:=a) (b:=b) (ho.all p hp) hs1 (by omega) (by omega);refine ⟨r,c,?_⟩
   split
   ·have hr:=reverseRange_holds (α:=List Int) d1 a b hab (by omega);refine ⟨_,q5_.spec (by omega) (by omega) hs1,?_⟩;rw [e,wxL ((m:Int)-a) (m-a) (by omega) (by omega),wxL ((b:Int)-1) (b-1) (by omega) (by omega),wxL (((b-1:Nat):Int)-((m-a:Nat):Int)) (b-1-(m-a)) (by omega) (by omega)];exact l4 _ _ _ _ _ _ (permIn_trans _ _ _ a b P1 hr) (by omega) (by omega)
   ·rw [e];exact l4 _ _ _ _ _ _ P1 m1 m2
  split
  ·exact l5 _ _ _ _ (permIn_refl d a b)
  ·obtain ⟨R,c,hR⟩:=q4_.spec (a:=a) (b:=b) (d:=d) (by omega) hb hs;exact ⟨_,c,l5 _ _ _ _ hR⟩
end q14_
theorem q9_.spec {l:List (List Int)} (hl:l.length<4611686018427387904) (hp:∀ x∈l,p x):∃ r,q9_.C l r/\r.Perm l/\r.Pairwise (fun a b=>lt b a=false):=by
 obtain ⟨r,⟨R,rfl,h1,h2⟩,h3⟩:=q9_.enter l (fun r=>∃ R:Array (List Int),r=R.toList/\PermIn 0 l.length l.toArray R/\SortedIn lt 0 l.length R) (by
  have e:IntKind.wrap .u64 (l.length:Int)=(l.length:Int):=by
   rw [show (IntKind.wrap .u64 (l.length:Int))=(l.length:Int) % 18446744073709551616 from by simp [IntKind.wrap,IntKind.bits,IntKind.signed]];omega
  rw [e];obtain ⟨s,c,_,_⟩:=q78_.spec (x:=l.length) (by omega);refine ⟨_,c,?_⟩;obtain ⟨r,⟨R,rfl,q1,q2⟩,c2⟩:=q14_.enter 0 (l.length:Int) s l (fun r=>∃ R:Array (List Int),r=R.toList/\PermIn 0 l.length l.toArray R/\SortedIn lt 0 l.length R) (by
   have:=q14_.loop hC hS l.length 0 l.length s true true l.toArray (fun r=>∃ R:Array (List Int),r=R.toList/\PermIn 0 l.length l.toArray R/\SortedIn lt 0 l.length R) (by omega) (by omega) (by simp) (by unfold SzAL;simpa using hl) (fun i hi=>by
    have hi':i<l.length:=by simpa using hi
    rw [getElem!_pos l.toArray i hi]
    exact hp _ (by simp)) (Or.inl rfl) fun R h1 h2=>⟨R,rfl,h1,h2⟩
   simpa using this)
  exact ⟨_,c2,R,rfl,q1,q2⟩)
 refine ⟨_,h3,?_,?_⟩
 ·have:=h1.2.2;have hz:R.size=l.length:=by simpa using h1.1
  have e1:(R.extract 0 l.length).toList=R.toList:=by
   rw [← hz,Array.extract_size]
  have e2:(l.toArray.extract 0 l.length).toList=l:=by simp
  rwa [e1,e2] at this
 ·have hz:R.size=l.length:=by simpa using h1.1
  rw [List.pairwise_iff_getElem];intro i j hi hj hij;have hi':i<R.size:=by simpa using hi
  have hj':j<R.size:=by simpa using hj
  have:=h2 i j (by omega) hij (by omega);rw [getElem!_pos R i hi',getElem!_pos R j hj'] at this;simpa using this
end
end Go.Own
