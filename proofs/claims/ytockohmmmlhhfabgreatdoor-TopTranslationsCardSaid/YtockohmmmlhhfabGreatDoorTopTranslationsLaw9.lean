/- What the functions answer. No conditions. -/
import Derived.Test.YtockohmmmlhhfabGreatDoorTopTranslationsLaw2
import Derived.Test.YtockohmmmlhhfabGreatDoorTopTranslationsLaw8
set_option linter.all false
namespace Go.Own
open Go.Sort
section
variable {p:List Int->Prop} {lt:List Int->List Int->Bool} (hC:Ak7 p lt q30_.C)
include hC
namespace q3_
theorem inner {a b i:Nat} {φ:List (List Int)->Prop} (j:Nat):∀ (d:Array (List Int)),Abp p d->j<d.size->SzAL d->L3 a b i (insInner lt a j d).toList φ->L2 a b i j d.toList φ:=by
 induction j with
 | zero=>
  intro d hp hj hs h;apply L2_step;rw [if_neg (by omega)];exact h
 | succ j ih=>
  intro d hp hj hs h;apply L2_step;have e:insInner lt a (j+1) d=if j+1 > a&&lt d[j+1]! d[j]! then insInner lt a j (swp d (j+1) j) else d:=rfl
  rw [e] at h;by_cases haj:a<j+1
  ·rw [if_pos (by omega)];rw [wxL (((j+1:Nat):Int)-1) j (by omega) (by unfold SzAL at hs;omega)];refine ⟨_,agL hj,_,agL (by omega),hC.ite (hp _ hj) (hp _ (by omega)) ?_⟩;by_cases hl:lt d[j+1]! d[j]! = true
   ·rw [if_pos hl];rw [if_pos (by rw [hl];simpa using haj)] at h;obtain ⟨x,hx⟩:=agSL (d:=d) (i:=((j+1:Nat):Int)) (x:=d[j]!) (j:=j) (by omega);refine ⟨x,hx,?_⟩;rw [Adw];exact ih _ ((OkdL.swp hj (by omega)).all p hp) (by rw [size_swp];omega) (by unfold SzAL;rw [size_swp];exact hs) h
   ·rw [if_neg hl];rw [if_neg (by rw [Bool.eq_false_iff.2 hl];simp)] at h;exact h
  ·rw [if_neg (by omega)];rw [if_neg (by simp;omega)] at h;exact h
theorem outer {a b:Nat} {φ:List (List Int)->Prop} (n:Nat):∀ (i:Nat) (d:Array (List Int)),b-i<=n->b<=d.size->Abp p d->SzAL d->φ (insOuter lt a b i d).toList->L1 a b i d.toList φ:=by
 induction n with
 | zero=>
  intro i d hn hb hp hs h;apply L1_step;unfold insOuter at h;rw [if_neg (by omega)] at h;rw [if_neg (by omega)];exact h
 | succ n ih=>
  intro i d hn hb hp hs h;apply L1_step;unfold insOuter at h;by_cases hi:i<b
  ·rw [if_pos (by omega)];rw [if_pos hi] at h;have ho:=Am0 lt a i d (by omega);refine inner hC i d hp (by omega) hs ?_;apply L3_step;rw [wxL ((i:Int)+1) (i+1) (by omega) (by unfold SzAL at hs;omega)];exact ih (i+1) _ (by omega) (by rw [ho.size];exact hb) (ho.all p hp) (by unfold SzAL;rw [ho.size];exact hs) h
  ·rw [if_neg (by omega)];rw [if_neg hi] at h;exact h
theorem spec {a b:Nat} {d:Array (List Int)} (hab:a<=b) (hb:b<=d.size) (hp:Abp p d) (hs:SzAL d):C a b d.toList (insertionSort lt d a b).toList:=by
 obtain ⟨r,h1,h2⟩:=enter a b d.toList (fun r=>r=(insertionSort lt d a b).toList) (by
  rw [wxL ((a:Int)+1) (a+1) (by omega) (by unfold SzAL at hs;omega)]
  exact outer hC (b-(a+1)) (a+1) d (Nat.le_refl _) hb hp hs rfl)
 rw [← h1];exact h2
end q3_
namespace q11_
theorem loop {hi first:Nat} {φ:List (List Int)->Prop} (n:Nat):∀ (root:Nat) (d:Array (List Int)),hi-root<=n->root<=hi->first+hi<=d.size->Abp p d->SzAL d->φ (siftDown lt hi first root d).toList->L1 hi first root d.toList φ:=by
 induction n with
 | zero=>
  intro root d hn hr hb hp hs h;unfold SzAL at hs;apply L1_step;rw [wxL (2*(root:Int)) (2*root) (by omega) (by omega),wxL (((2*root:Nat):Int)+1) (2*root+1) (by omega) (by omega)];unfold siftDown at h;rw [dif_pos (by omega)] at h;rw [if_pos (by omega)];exact h
 | succ n ih=>
  intro root d hn hr hb hp hs h;have hs':=hs;unfold SzAL at hs';have two:∀ c:Nat,c<hi->root<c->(if lt d[first+root]! d[first+c]! = true then φ (siftDown lt hi first c (swp d (first+root) (first+c))).toList else φ d.toList)->L2 hi first root c d.toList φ:=fun c hc hrc h=>by
   apply L2_step;rw [wxL ((first:Int)+root) (first+root) (by omega) (by omega),wxL ((first:Int)+c) (first+c) (by omega) (by omega)];refine ⟨_,agL (by omega),_,agL (by omega),hC.ite (hp _ (by omega)) (hp _ (by omega)) ?_⟩
   split
   ·rename_i hl;rw [if_pos hl] at h;obtain ⟨x,hx⟩:=agSL (d:=d) (i:=((first+root:Nat):Int)) (x:=d[first+c]!) (j:=first+c) (by omega);refine ⟨x,hx,?_⟩;rw [Adw];exact ih c _ (by omega) (by omega) (by rw [size_swp];exact hb) ((OkdL.swp (by omega) (by omega)).all p hp) (by unfold SzAL;rw [size_swp];exact hs) h
   ·rename_i hl;rw [if_neg hl] at h;exact h
  apply L1_step;rw [wxL (2*(root:Int)) (2*root) (by omega) (by omega),wxL (((2*root:Nat):Int)+1) (2*root+1) (by omega) (by omega)];unfold siftDown at h;by_cases h1:2*root+1 ≥ hi
  ·rw [dif_pos h1] at h;rw [if_pos (by omega)];exact h
  ·rw [dif_neg h1] at h;rw [if_neg (by omega),wxL (((2*root+1:Nat):Int)+1) (2*root+2) (by omega) (by omega)];by_cases h2:2*root+2<hi
   ·rw [if_pos (by omega)];rw [wxL ((first:Int)+((2*root+1:Nat):Int)) (first+(2*root+1)) (by omega) (by omega),wxL (((first+(2*root+1):Nat):Int)+1) (first+(2*root+1)+1) (by omega) (by omega)];refine ⟨_,agL (by omega),_,agL (by omega),hC.ite (hp _ (by omega)) (hp _ (by omega)) ?_⟩;by_cases hl:lt d[first+(2*root+1)]! d[first+(2*root+1)+1]! = true
    ·rw [if_pos hl];rw [if_pos (by rw [hl];simpa using h2)] at h;refine two _ h2 (by omega) ?_;by_cases h3:lt d[first+root]! d[first+(2*root+2)]! = true
     ·rw [if_pos h3];rw [if_neg (by rw [h3];simp),dif_pos h2] at h;exact h
     ·rw [if_neg h3];rw [if_pos (by rw [Bool.eq_false_iff.2 h3];rfl)] at h;exact h
    ·rw [if_neg hl];rw [if_neg (by rw [Bool.eq_false_iff.2 hl];simp)] at h;refine two _ (by omega) (by omega) ?_;by_cases h3:lt d[first+root]! d[first+(2*root+1)]! = true
     ·rw [if_pos h3];rw [if_neg (by rw [h3];simp)] at h;exact h
     ·rw [if_neg h3];rw [if_pos (by rw [Bool.eq_false_iff.2 h3];rfl)] at h;exact h
   ·rw [if_neg (by omega)];rw [if_neg (by simp;omega)] at h;refine two _ (by omega) (by omega) ?_;by_cases h3:lt d[first+root]! d[first+(2*root+1)]! = true
    ·rw [if_pos h3];rw [if_neg (by rw [h3];simp)] at h;exact h
    ·rw [if_neg h3];rw [if_pos (by rw [Bool.eq_false_iff.2 h3];rfl)] at h;exact h
theorem spec {lo hi first:Nat} {d:Array (List Int)} (hl:lo<=hi) (hb:first+hi<=d.size) (hp:Abp p d) (hs:SzAL d):C lo hi first d.toList (siftDown lt hi first lo d).toList:=by
 obtain ⟨r,h1,h2⟩:=enter lo hi first d.toList (fun r=>r=(siftDown lt hi first lo d).toList) (loop hC (hi-lo) lo d (Nat.le_refl _) hl hb hp hs rfl)
 rw [← h1];exact h2
end q11_
namespace q12_
theorem build {a hi:Nat} {φ:List (List Int)->Prop} (hh:1<=hi) (k:Nat):∀ (d:Array (List Int)),k<=hi->a+hi<=d.size->Abp p d->SzAL d->(∀ d',OkdL d d'->d'=heapBuild lt hi a k d->L2 a ((hi:Int)-1) d'.toList φ)->L1 a hi ((k:Int)-1) d.toList φ:=by
 induction k with
 | zero=>
  intro d hk hb hp hs h;have hs':=hs;unfold SzAL at hs';apply L1_step;rw [if_neg (by omega),wiL ((hi:Int)-1) (by omega) (by omega)];exact h d (OkdL.refl d) rfl
 | succ k ih=>
  intro d hk hb hp hs h;have hs':=hs;unfold SzAL at hs';apply L1_step;have e:((k+1:Nat):Int)-1=(k:Int):=by omega
  rw [e,if_pos (by omega)];have ho:=Aft lt hi a (hi-k) k d (Nat.le_refl _) hb;refine ⟨_,q11_.spec hC (lo:=k) (by omega) hb hp hs,?_⟩;rw [wiL ((k:Int)-1) (by omega) (by omega)];exact ih _ (by omega) (by rw [ho.size];exact hb) (ho.all p hp) (by unfold SzAL;rw [ho.size];exact hs) fun d' h1 h2=>h d' (ho.trans h1) h2
theorem pop {a:Nat} {φ:List (List Int)->Prop} (k:Nat):∀ (d:Array (List Int)),a+k<=d.size->a<d.size->Abp p d->SzAL d->φ (heapPop lt a k d).toList->L2 a ((k:Int)-1) d.toList φ:=by
 induction k with
 | zero=>
  intro d hb ha hp hs h;apply L2_step;rw [if_neg (by omega)];exact h
 | succ k ih=>
  intro d hb ha hp hs h;have hs':=hs;unfold SzAL at hs';apply L2_step;have e:((k+1:Nat):Int)-1=(k:Int):=by omega
  rw [e,if_pos (by omega),wxL ((a:Int)+k) (a+k) (by omega) (by omega)];obtain ⟨x,hx⟩:=agSL (d:=d) (i:=(a:Int)) (x:=d[a+k]!) (j:=a+k) (by omega);have ho:=Aft lt k a k 0 (swp d a (a+k)) (by omega) (by rw [size_swp];omega);have ho1:OkdL d (swp d a (a+k)):=OkdL.swp ha (by omega);have sp:=q11_.spec hC (lo:=0) (hi:=k) (first:=a) (d:=swp d a (a+k)) (Nat.zero_le _) (by rw [size_swp];omega) (ho1.all p hp) (by unfold SzAL;rw [size_swp];exact hs);refine ⟨_,agL (by omega),_,agL ha,x,hx,_,by rw [Adw];exact sp,?_⟩;rw [wiL ((k:Int)-1) (by omega) (by omega)];exact ih _ (by rw [ho.size,size_swp];omega) (by rw [ho.size,size_swp];exact ha) (ho.all p (ho1.all p hp)) (by unfold SzAL;rw [ho.size,size_swp];exact hs) h
theorem spec {a b:Nat} {d:Array (List Int)} (hab:a<b) (hb:b<=d.size) (hp:Abp p d) (hs:SzAL d):C a b d.toList (heapSort lt d a b).toList:=by
 have hs':=hs;unfold SzAL at hs';obtain ⟨r,h1,h2⟩:=enter a b d.toList (fun r=>r=(heapSort lt d a b).toList) (by
  rw [wxL ((b:Int)-a) (b-a) (by omega) (by omega),wxL (((b-a:Nat):Int)-1) (b-a-1) (by omega) (by omega)];have e:Int.tdiv ((b-a-1:Nat):Int) 2=(((b-a-1) / 2:Nat):Int):=by
   rw [Int.tdiv_eq_ediv_of_nonneg (by omega)];omega
  rw [e,wxL (((b-a-1) / 2:Nat):Int) ((b-a-1) / 2) rfl (by omega)];have:=build hC (a:=a) (hi:=b-a) (φ:=fun r=>r=(heapSort lt d a b).toList) (by omega) ((b-a-1) / 2+1) d (by omega) (by omega) hp hs (fun d' ho he=>by
   refine pop hC (b-a) d' (by rw [ho.size];omega) (by rw [ho.size];omega) (ho.all p hp) (by unfold SzAL;rw [ho.size];exact hs) ?_
   rw [he];rfl)
  rwa [show (((b-a-1) / 2+1:Nat):Int)-1=(((b-a-1) / 2:Nat):Int) by omega] at this)
 rw [← h1];exact h2
end q12_
end
open Go.Sort
section
variable {p:List Int->Prop} {lt:List Int->List Int->Bool} (hC:Ak7 p lt q30_.C)
include hC
theorem q15_.spec {i j:Nat} {s:Int} {d:Array (List Int)} (hp:Abp p d) (hi:i<d.size) (hj:j<d.size):∃ r,q15_.C d.toList i j s r/\((r.1=(i:Int)/\r.2.1=(j:Int))∨(r.1=(j:Int)/\r.2.1=(i:Int))):=by
 obtain ⟨r,h1,h2⟩:=q15_.enter d.toList i j s (fun r=>(r.1=(i:Int)/\r.2.1=(j:Int))∨(r.1=(j:Int)/\r.2.1=(i:Int))) (by
  refine ⟨_,agL hj,_,agL hi,hC.ite (hp _ hj) (hp _ hi) ?_⟩
  split
  ·exact .inr ⟨rfl,rfl⟩
  ·exact .inl ⟨rfl,rfl⟩)
 exact ⟨r,h2,h1⟩
theorem q16_.spec {i j k lo hi:Nat} {s:Int} {d:Array (List Int)} (hp:Abp p d) (hh:hi<=d.size) (hi1:lo<=i/\i<hi) (hj:lo<=j/\j<hi) (hk:lo<=k/\k<hi):∃ r,q16_.C d.toList i j k s r/\∃ m:Nat,r.1=(m:Int)/\lo<=m/\m<hi:=by
 obtain ⟨r,h1,h2⟩:=q16_.enter d.toList i j k s (fun r=>∃ m:Nat,r.1=(m:Int)/\lo<=m/\m<hi) (by
  have pick:∀ (x y:Nat) (s:Int),lo<=x/\x<hi->lo<=y/\y<hi->∃ r,q15_.C d.toList x y s r/\(∃ m:Nat,r.1=(m:Int)/\lo<=m/\m<hi)/\∃ m:Nat,r.2.1=(m:Int)/\lo<=m/\m<hi:=fun x y s hx hy=>by
   obtain ⟨r,e1,e2⟩:=q15_.spec hC (i:=x) (j:=y) (s:=s) hp (by omega) (by omega);rcases e2 with ⟨a,b⟩ | ⟨a,b⟩
   ·exact ⟨r,e1,⟨x,a,hx⟩,⟨y,b,hy⟩⟩
   ·exact ⟨r,e1,⟨y,a,hy⟩,⟨x,b,hx⟩⟩
  obtain ⟨r1,c1,⟨m1,e1,b1⟩,⟨n1,f1,g1⟩⟩:=pick i j s hi1 hj;obtain ⟨r2,c2,⟨m2,e2,b2⟩,⟨n2,f2,g2⟩⟩:=pick n1 k r1.2.2 g1 hk;obtain ⟨r3,c3,⟨m3,e3,b3⟩,⟨n3,f3,g3⟩⟩:=pick m1 m2 r2.2.2 b1 b2
  refine ⟨r1,c1,r2,by rw [f1];exact c2,r3,by rw [e1,e2];exact c3,n3,f3,g3⟩)
 exact ⟨r,h2,h1⟩
theorem q2_.spec {i lo hi:Nat} {s:Int} {d:Array (List Int)} (hp:Abp p d) (hs:SzAL d) (hh:hi<=d.size) (h1:lo+1<=i) (h2:i+1<hi):∃ r,q2_.C d.toList i s r/\∃ m:Nat,r.1=(m:Int)/\lo<=m/\m<hi:=by
 unfold SzAL at hs;obtain ⟨r,h3,h4⟩:=q2_.enter d.toList i s (fun r=>∃ m:Nat,r.1=(m:Int)/\lo<=m/\m<hi) (by
  rw [wxL ((i:Int)-1) (i-1) (by omega) (by omega),wxL ((i:Int)+1) (i+1) (by omega) (by omega)];obtain ⟨r,c,m,e,b⟩:=q16_.spec hC (i:=i-1) (j:=i) (k:=i+1) (lo:=lo) (hi:=hi) (s:=s) hp hh (by omega) (by omega) (by omega)
  exact ⟨r,c,m,e,b⟩)
 exact ⟨r,h4,h3⟩
theorem q6_.spec {a b:Nat} {d:Array (List Int)} (hp:Abp p d) (hs:SzAL d) (hb:b<=d.size) (h8:a+8<=b):∃ r,q6_.C d.toList a b r/\∃ m:Nat,r.1=(m:Int)/\a<=m/\m<b:=by
 have hs':=hs;unfold SzAL at hs';have two:∀ (m:Nat) (q:Int) (φ:Int×Int->Prop),(∀ h,φ ((m:Int),h))->q6_.L2 q m φ:=fun m q φ h=>by
  apply q6_.L2_step
  split
  ·exact h _
  ·split
   ·exact h _
   ·exact h _
 have one:∀ (i j k:Nat) (q:Int) (φ:Int×Int->Prop),a<=i/\i<b->a<=j/\j<b->a<=k/\k<b->(∀ (m:Nat) h,a<=m/\m<b->φ ((m:Int),h))->q6_.L1 d.toList q i j k φ:=fun i j k q φ h1 h2 h3 h=>by
  apply q6_.L1_step;obtain ⟨r,c,m,e,f⟩:=q16_.spec hC (i:=i) (j:=j) (k:=k) (lo:=a) (hi:=b) (s:=q) hp hb h1 h2 h3;refine ⟨r,c,?_⟩;rw [e];exact two m _ φ fun x=>h m x f
 obtain ⟨r,h3,h4⟩:=q6_.enter d.toList a b (fun r=>∃ m:Nat,r.1=(m:Int)/\a<=m/\m<b) (by
  have e:Int.tdiv ((b-a:Nat):Int) 4=(((b-a) / 4:Nat):Int):=by
   rw [Int.tdiv_eq_ediv_of_nonneg (by omega)];omega
  rw [wxL ((b:Int)-a) (b-a) (by omega) (by omega),e,wxL (((b-a) / 4:Nat):Int) ((b-a) / 4) rfl (by omega)];generalize hq:(b-a) / 4=q;rw [wxL ((q:Int)*1) q (by omega) (by omega),wxL ((q:Int)*2) (q*2) (by omega) (by omega),wxL ((q:Int)*3) (q*3) (by omega) (by omega),wxL ((a:Int)+(q:Int)) (a+q) (by omega) (by omega),wxL ((a:Int)+((q*2:Nat):Int)) (a+q*2) (by omega) (by omega),wxL ((a:Int)+((q*3:Nat):Int)) (a+q*3) (by omega) (by omega)];rw [if_pos (by omega)]
  split
  ·rename_i h50;obtain ⟨r1,c1,m1,e1,f1⟩:=q2_.spec hC (i:=a+q) (lo:=a) (hi:=b) (s:=0) hp hs hb (by omega) (by omega);obtain ⟨r2,c2,m2,e2,f2⟩:=q2_.spec hC (i:=a+q*2) (lo:=a) (hi:=b) (s:=r1.2) hp hs hb (by omega) (by omega);obtain ⟨r3,c3,m3,e3,f3⟩:=q2_.spec hC (i:=a+q*3) (lo:=a) (hi:=b) (s:=r2.2) hp hs hb (by omega) (by omega);refine ⟨r1,c1,r2,c2,r3,c3,?_⟩;rw [e1,e2,e3];exact one m1 m2 m3 _ _ f1 f2 f3 fun m h hm=>⟨m,rfl,hm⟩
  ·exact one (a+q) (a+q*2) (a+q*3) _ _ (by omega) (by omega) (by omega) fun m h hm=>⟨m,rfl,hm⟩)
 exact ⟨r,h4,h3⟩
omit hC in
theorem q5_.loop {φ:List (List Int)->Prop} (n:Nat):∀ (i j:Nat) (d:Array (List Int)),j-i<=n->j<d.size->SzAL d->φ (reverseLoop i j d).toList->q5_.L1 i j d.toList φ:=by
 induction n with
 | zero=>
  intro i j d hn hj hs h;apply q5_.L1_step;unfold reverseLoop at h;rw [if_neg (by omega)] at h;rw [if_neg (by omega)];exact h
 | succ n ih=>
  intro i j d hn hj hs h;have hs':=hs;unfold SzAL at hs';apply q5_.L1_step;unfold reverseLoop at h;by_cases hij:i<j
  ·rw [if_pos hij] at h;rw [if_pos (by omega)];obtain ⟨x,hx⟩:=agSL (d:=d) (i:=(i:Int)) (x:=d[j]!) (j:=j) hj;refine ⟨_,agL hj,_,agL (by omega),x,hx,?_⟩;rw [Adw,wxL ((i:Int)+1) (i+1) (by omega) (by omega),wxL ((j:Int)-1) (j-1) (by omega) (by omega)];exact ih _ _ _ (by omega) (by rw [size_swp];omega) (by unfold SzAL;rw [size_swp];exact hs) h
  ·rw [if_neg hij] at h;rw [if_neg (by omega)];exact h
omit hC in
theorem q5_.spec {a b:Nat} {d:Array (List Int)} (hab:a<b) (hb:b<=d.size) (hs:SzAL d):q5_.C a b d.toList (reverseRange d a b).toList:=by
 have hs':=hs;unfold SzAL at hs';obtain ⟨r,h1,h2⟩:=q5_.enter a b d.toList (fun r=>r=(reverseRange d a b).toList) (by
  rw [wxL ((b:Int)-1) (b-1) (by omega) (by omega)]
  exact q5_.loop (b-1-a) a (b-1) d (Nat.le_refl _) (by omega) hs rfl)
 rw [← h1];exact h2
namespace q0_
theorem scan {a b:Nat} {s:Int} {φ:Bool×List (List Int)->Prop} (n:Nat):∀ (i:Nat) (d:Array (List Int)),b-i<=n->1<=i->i<=b->b<=d.size->Abp p d->SzAL d->L5 a b (scanSorted lt d b i) s d.toList φ->L2 a b i s d.toList φ:=by
 induction n with
 | zero=>
  intro i d hn h1 hib hb hp hs h;apply L2_step;unfold scanSorted at h;rw [if_neg (by simp;omega)] at h;rw [if_neg (by omega)];exact h
 | succ n ih=>
  intro i d hn h1 hib hb hp hs h;have hs':=hs;unfold SzAL at hs';apply L2_step;unfold scanSorted at h;by_cases hi:i<b
  ·rw [if_pos (by omega),wxL ((i:Int)-1) (i-1) (by omega) (by omega)];refine ⟨_,agL (by omega),_,agL (by omega),hC.ite (hp _ (by omega)) (hp _ (by omega)) ?_⟩;by_cases hl:lt d[i]! d[i-1]! = true
   ·rw [if_pos hl];rw [if_neg (by rw [hl];simp)] at h;exact h
   ·rw [if_neg hl];rw [if_pos (by rw [Bool.eq_false_iff.2 hl];simpa using hi)] at h;rw [wxL ((i:Int)+1) (i+1) (by omega) (by omega)];exact ih (i+1) d (by omega) (by omega) (by omega) hb hp hs h
  ·rw [if_neg (by simp;omega)] at h;rw [if_neg (by omega)];exact h
theorem down {a b i:Nat} {s:Int} {φ:Bool×List (List Int)->Prop} (j:Nat):∀ (d:Array (List Int)),j<d.size->Abp p d->SzAL d->L6 a b i s (shiftDown lt j d).toList φ->L3 a b i s j d.toList φ:=by
 induction j with
 | zero=>
  intro d hj hp hs h;apply L3_step;rw [if_neg (by omega)];exact h
 | succ j ih=>
  intro d hj hp hs h;have hs':=hs;unfold SzAL at hs';apply L3_step;have e:shiftDown lt (j+1) d=if !lt d[j+1]! d[j]! then d else shiftDown lt j (swp d (j+1) j):=rfl
  rw [e] at h;rw [if_pos (by omega),wxL (((j+1:Nat):Int)-1) j (by omega) (by omega)];refine ⟨_,agL hj,_,agL (by omega),hC.ite (hp _ hj) (hp _ (by omega)) ?_⟩;by_cases hl:lt d[j+1]! d[j]! = true
  ·rw [if_pos hl];rw [if_neg (by rw [hl];simp)] at h;obtain ⟨x,hx⟩:=agSL (d:=d) (i:=((j+1:Nat):Int)) (x:=d[j]!) (j:=j) (by omega);refine ⟨x,hx,?_⟩;rw [Adw];exact ih _ (by rw [size_swp];omega) ((OkdL.swp hj (by omega)).all p hp) (by unfold SzAL;rw [size_swp];exact hs) h
  ·rw [if_neg hl];rw [if_pos (by rw [Bool.eq_false_iff.2 hl];rfl)] at h;exact h
theorem up {a b i:Nat} {s:Int} {φ:Bool×List (List Int)->Prop} (n:Nat):∀ (j:Nat) (d:Array (List Int)),b-j<=n->1<=j->b<=d.size->Abp p d->SzAL d->L7 a b i s (shiftUp lt b j d).toList φ->L4 a b i s j d.toList φ:=by
 induction n with
 | zero=>
  intro j d hn h1 hb hp hs h;apply L4_step;unfold shiftUp at h;rw [if_neg (by omega)] at h;rw [if_neg (by omega)];exact h
 | succ n ih=>
  intro j d hn h1 hb hp hs h;have hs':=hs;unfold SzAL at hs';apply L4_step;unfold shiftUp at h;by_cases hj:j<b
  ·rw [if_pos hj] at h;rw [if_pos (by omega),wxL ((j:Int)-1) (j-1) (by omega) (by omega)];refine ⟨_,agL (by omega),_,agL (by omega),hC.ite (hp _ (by omega)) (hp _ (by omega)) ?_⟩;by_cases hl:lt d[j]! d[j-1]! = true
   ·rw [if_pos hl];rw [if_neg (by rw [hl];simp)] at h;obtain ⟨x,hx⟩:=agSL (d:=d) (i:=(j:Int)) (x:=d[j-1]!) (j:=j-1) (by omega);refine ⟨x,hx,?_⟩;rw [Adw,wxL ((j:Int)+1) (j+1) (by omega) (by omega)];exact ih (j+1) _ (by omega) (by omega) (by rw [size_swp];exact hb) ((OkdL.swp (by omega) (by omega)).all p hp) (by unfold SzAL;rw [size_swp];exact hs) h
   ·rw [if_neg hl];rw [if_pos (by rw [Bool.eq_false_iff.2 hl];rfl)] at h;exact h
  ·rw [if_neg hj] at h;rw [if_neg (by omega)];exact h
omit hC in
theorem scan_le {b:Nat} {d:Array (List Int)} (n:Nat):∀ (i:Nat),b-i<=n->i<=b->i<=scanSorted lt d b i/\scanSorted lt d b i<=b:=by
 induction n with
 | zero=>intro i hn hi;unfold scanSorted;rw [if_neg (by simp;omega)];omega
 | succ n ih=>
  intro i hn hi;unfold scanSorted
  split
  ·rename_i h;simp only [Bool.and_eq_true,decide_eq_true_eq] at h;have:=ih (i+1) (by omega) (by omega);omega
  ·omega
theorem steps {a b:Nat} {φ:Bool×List (List Int)->Prop} (hab:a<b) (s:Nat):∀ (i:Nat) (d:Array (List Int)),s<=5->a+1<=i->i<=b->b<=d.size->Abp p d->SzAL d->φ ((partialIns lt a b s i d).2,(partialIns lt a b s i d).1.toList)->L1 a b i (((5-s:Nat):Int)) d.toList φ:=by
 induction s with
 | zero=>
  intro i d hs5 hi hib hb hp hs h;apply L1_step;rw [if_neg (by omega)];exact h
 | succ s ih=>
  intro i d hs5 hi hib hb hp hs h;have hs':=hs;unfold SzAL at hs';apply L1_step;rw [if_pos (by omega)];refine scan hC (b-i) i d (Nat.le_refl _) (by omega) hib hb hp hs ?_;have hsc:=scan_le (lt:=lt) (b:=b) (d:=d) (b-i) i (Nat.le_refl _) hib;rw [partialIns_succ] at h;unfold fixUp fixDown at h;generalize hk:scanSorted lt d b i=k at *;apply L5_step;by_cases hkb:k=b
  ·rw [if_pos (by omega)];rw [if_pos hkb] at h;exact h
  ·rw [if_neg (by omega)];rw [if_neg hkb] at h;rw [wxL ((b:Int)-a) (b-a) (by omega) (by omega)];by_cases h50:b-a<50
   ·rw [if_pos (by omega)];rw [if_pos h50] at h;exact h
   ·rw [if_neg (by omega)];rw [if_neg h50] at h;rw [wxL ((k:Int)-1) (k-1) (by omega) (by omega),wxL ((k:Int)-a) (k-a) (by omega) (by omega)];obtain ⟨x,hx⟩:=agSL (d:=d) (i:=(k:Int)) (x:=d[k-1]!) (j:=k-1) (by omega);refine ⟨_,agL (by omega),_,agL (by omega),x,hx,?_⟩;have ho1:OkdL d (swp d k (k-1)):=OkdL.swp (by omega) (by omega);have fin:∀ d2:Array (List Int),OkdL d d2->φ ((partialIns lt a b s k (if b-k ≥ 2 then shiftUp lt b (k+1) d2 else d2)).2,(partialIns lt a b s k (if b-k ≥ 2 then shiftUp lt b (k+1) d2 else d2)).1.toList)->L6 a b k (((5-(s+1):Nat):Int)) d2.toList φ:=fun d2 ho h=>by
     have hb2:b<=d2.size:=by rw [ho.size];exact hb
     have hs2:SzAL d2:=by unfold SzAL;rw [ho.size];exact hs
     have last:∀ d3:Array (List Int),OkdL d d3->φ ((partialIns lt a b s k d3).2,(partialIns lt a b s k d3).1.toList)->L7 a b k (((5-(s+1):Nat):Int)) d3.toList φ:=fun d3 ho3 h=>by
      apply L7_step;rw [wxL ((((5-(s+1):Nat):Int))+1) (5-s) (by omega) (by omega)];exact ih k d3 (by omega) (by omega) (by omega) (by rw [ho3.size];exact hb) (ho3.all p hp) (by unfold SzAL;rw [ho3.size];exact hs) h
     apply L6_step;rw [wxL ((b:Int)-k) (b-k) (by omega) (by omega)];by_cases h2:b-k ≥ 2
     ·rw [if_pos (by omega),wxL ((k:Int)+1) (k+1) (by omega) (by omega)];rw [if_pos h2] at h;have ho3:=Amq lt b (b-(k+1)) (k+1) d2 (Nat.le_refl _) (by omega) hb2;exact up hC (b-(k+1)) (k+1) d2 (Nat.le_refl _) (by omega) hb2 (ho.all p hp) hs2 (last _ (ho.trans ho3) h)
     ·rw [if_neg (by omega)];rw [if_neg h2] at h;exact last d2 ho h
    rw [Adw];by_cases h2:k-a ≥ 2
    ·rw [if_pos (by omega)];rw [if_pos h2] at h;have ho2:=Akk lt (k-1) (swp d k (k-1)) (by rw [size_swp];omega);exact down hC (k-1) _ (by rw [size_swp];omega) (ho1.all p hp) (by unfold SzAL;rw [size_swp];exact hs) (fin _ (ho1.trans ho2) h)
    ·rw [if_neg (by omega)];rw [if_neg h2] at h;exact fin _ ho1 h
theorem spec {a b:Nat} {d:Array (List Int)} (hab:a<b) (hb:b<=d.size) (hp:Abp p d) (hs:SzAL d):C a b d.toList ((partialInsertionSort lt d a b).2,(partialInsertionSort lt d a b).1.toList):=by
 have hs':=hs;unfold SzAL at hs';obtain ⟨r,h1,h2⟩:=enter a b d.toList (fun r=>r=((partialInsertionSort lt d a b).2,(partialInsertionSort lt d a b).1.toList)) (by
  rw [wxL ((a:Int)+1) (a+1) (by omega) (by omega)]
  exact steps hC hab 5 (a+1) d (by omega) (by omega) (by omega) hb hp hs rfl)
 rw [← h1];exact h2
end q0_
end
open Go.Sort
section
variable {p:List Int->Prop} {lt:List Int->List Int->Bool} (hC:Ak7 p lt q30_.C)
include hC
namespace q8_
theorem up1 {a j:Nat} {d:Array (List Int)} {φ:Int×Bool×List (List Int)->Prop} (ha:a<d.size) (hj:j<d.size) (hp:Abp p d) (hs:SzAL d) (n:Nat):∀ (i:Nat),j+1-i<=n->L2 a (scanUp (fun x=>lt x d[a]!) d j i) j d.toList φ->L1 a i j d.toList φ:=by
 unfold SzAL at hs
 induction n with
 | zero=>
  intro i hn h;apply L1_step;unfold scanUp at h;rw [if_neg (by simp;omega)] at h;rw [if_neg (by omega)];exact h
 | succ n ih=>
  intro i hn h;apply L1_step;unfold scanUp at h;by_cases hij:i<=j
  ·rw [if_pos (by omega)];refine ⟨_,agL (by omega),_,agL ha,hC.ite (hp _ (by omega)) (hp _ ha) ?_⟩;by_cases hl:lt d[i]! d[a]! = true
   ·rw [if_pos hl];rw [if_pos (by simp only [hl,Bool.and_true,decide_eq_true_eq];exact hij)] at h;rw [wxL ((i:Int)+1) (i+1) (by omega) (by omega)];exact ih (i+1) (by omega) h
   ·rw [if_neg hl];rw [if_neg (by simp [hl])] at h;exact h
  ·rw [if_neg (by simp;omega)] at h;rw [if_neg (by omega)];exact h
theorem down1 {a i:Nat} {d:Array (List Int)} {φ:Int×Bool×List (List Int)->Prop} (ha:a<d.size) (hi:1<=i) (hp:Abp p d) (hs:SzAL d) (j:Nat):j<d.size->L4 a i (scanDown (fun x=>!lt x d[a]!) d i j) d.toList φ->L2 a i j d.toList φ:=by
 unfold SzAL at hs
 induction j with
 | zero=>
  intro hj h;apply L2_step;rw [if_neg (by omega)];exact h
 | succ j ih=>
  intro hj h;apply L2_step;have e:scanDown (fun x=>!lt x d[a]!) d i (j+1)=if i<=j+1&&!lt d[j+1]! d[a]! then scanDown (fun x=>!lt x d[a]!) d i j else j+1:=rfl
  rw [e] at h;by_cases hij:i<=j+1
  ·rw [if_pos (by omega)];refine ⟨_,agL hj,_,agL ha,hC.ite (hp _ hj) (hp _ ha) ?_⟩;by_cases hl:lt d[j+1]! d[a]! = true
   ·rw [if_pos hl];rw [if_neg (by simp [hl])] at h;exact h
   ·rw [if_neg hl];rw [if_pos (by simp [hl,hij])] at h;rw [wxL (((j+1:Nat):Int)-1) j (by omega) (by omega)];exact ih (by omega) h
  ·rw [if_neg (by simp;omega)] at h;rw [if_neg (by omega)];exact h
theorem up2 {a j:Nat} {d:Array (List Int)} {φ:Int×Bool×List (List Int)->Prop} (ha:a<d.size) (hj:j<d.size) (hp:Abp p d) (hs:SzAL d) (n:Nat):∀ (i:Nat),j+1-i<=n->L6 a (scanUp (fun x=>lt x d[a]!) d j i) j d.toList φ->L5 a i j d.toList φ:=by
 unfold SzAL at hs
 induction n with
 | zero=>
  intro i hn h;apply L5_step;unfold scanUp at h;rw [if_neg (by simp;omega)] at h;rw [if_neg (by omega)];exact h
 | succ n ih=>
  intro i hn h;apply L5_step;unfold scanUp at h;by_cases hij:i<=j
  ·rw [if_pos (by omega)];refine ⟨_,agL (by omega),_,agL ha,hC.ite (hp _ (by omega)) (hp _ ha) ?_⟩;by_cases hl:lt d[i]! d[a]! = true
   ·rw [if_pos hl];rw [if_pos (by simp only [hl,Bool.and_true,decide_eq_true_eq];exact hij)] at h;rw [wxL ((i:Int)+1) (i+1) (by omega) (by omega)];exact ih (i+1) (by omega) h
   ·rw [if_neg hl];rw [if_neg (by simp [hl])] at h;exact h
  ·rw [if_neg (by simp;omega)] at h;rw [if_neg (by omega)];exact h
theorem down2 {a i:Nat} {d:Array (List Int)} {φ:Int×Bool×List (List Int)->Prop} (ha:a<d.size) (hi:1<=i) (hp:Abp p d) (hs:SzAL d) (j:Nat):j<d.size->L7 a i (scanDown (fun x=>!lt x d[a]!) d i j) d.toList φ->L6 a i j d.toList φ:=by
 unfold SzAL at hs
 induction j with
 | zero=>
  intro hj h;apply L6_step;rw [if_neg (by omega)];exact h
 | succ j ih=>
  intro hj h;apply L6_step;have e:scanDown (fun x=>!lt x d[a]!) d i (j+1)=if i<=j+1&&!lt d[j+1]! d[a]! then scanDown (fun x=>!lt x d[a]!) d i j else j+1:=rfl
  rw [e] at h;by_cases hij:i<=j+1
  ·rw [if_pos (by omega)];refine ⟨_,agL hj,_,agL ha,hC.ite (hp _ hj) (hp _ ha) ?_⟩;by_cases hl:lt d[j+1]! d[a]! = true
   ·rw [if_pos hl];rw [if_neg (by simp [hl])] at h;exact h
   ·rw [if_neg hl];rw [if_pos (by simp [hl,hij])] at h;rw [wxL (((j+1:Nat):Int)-1) j (by omega) (by omega)];exact ih (by omega) h
  ·rw [if_neg (by simp;omega)] at h;rw [if_neg (by omega)];exact h
theorem loop {a:Nat} {φ:Int×Bool×List (List Int)->Prop} (n:Nat):∀ (i j:Nat) (d:Array (List Int)),j+1-i<=n->a<i->a<d.size->j<d.size->Abp p d->SzAL d->φ ((((partLoop lt a i j d).1:Nat):Int),false,(swp (partLoop lt a i j d).2 (partLoop lt a i j d).1 a).toList)->L3 a i j d.toList φ:=by
 induction n with
 | zero=>
  intro i j d hn hai had hj hp hs h;have hs':=hs;unfold SzAL at hs';apply L3_step;refine up2 hC (by omega) hj hp hs 0 i (by omega) ?_;have eu:scanUp (fun x=>lt x d[a]!) d j i=i:=by unfold scanUp;rw [if_neg (by simp;omega)]
  rw [partLoop_eq] at h;rw [eu] at h ⊢;refine down2 hC (by omega) (by omega) hp hs j hj ?_;have hd:=scanDown_le (fun x=>!lt x d[a]!) d i j;generalize scanDown (fun x=>!lt x d[a]!) d i j=j2 at h hd ⊢;apply L7_step;rw [if_pos (by omega)];rw [if_pos (by omega)] at h;obtain ⟨x,hx⟩:=agSL (d:=d) (i:=(j2:Int)) (x:=d[a]!) (j:=a) (by omega);refine ⟨_,agL (by omega),_,agL (by omega),x,hx,?_⟩;rw [Adw];exact h
 | succ n ih=>
  intro i j d hn hai had hj hp hs h;have hs':=hs;unfold SzAL at hs';apply L3_step;refine up2 hC (by omega) hj hp hs (j+1-i) i (Nat.le_refl _) ?_;rw [partLoop_eq] at h;have hu:=scanUp_ge (fun x=>lt x d[a]!) d j i;generalize scanUp (fun x=>lt x d[a]!) d j i=i2 at h hu ⊢;refine down2 hC (by omega) (by omega) hp hs j hj ?_;have hd:=scanDown_le (fun x=>!lt x d[a]!) d i2 j;generalize scanDown (fun x=>!lt x d[a]!) d i2 j=j2 at h hd ⊢;apply L7_step;by_cases hlt:i2 > j2
  ·rw [if_pos (by omega)];rw [if_pos hlt] at h;obtain ⟨x,hx⟩:=agSL (d:=d) (i:=(j2:Int)) (x:=d[a]!) (j:=a) (by omega);refine ⟨_,agL (by omega),_,agL (by omega),x,hx,?_⟩;rw [Adw];exact h
  ·rw [if_neg (by omega)];rw [if_neg hlt] at h;obtain ⟨x,hx⟩:=agSL (d:=d) (i:=(i2:Int)) (x:=d[j2]!) (j:=j2) (by omega);refine ⟨_,agL (by omega),_,agL (by omega),x,hx,?_⟩;rw [Adw,wxL ((i2:Int)+1) (i2+1) (by omega) (by omega),wxL ((j2:Int)-1) (j2-1) (by omega) (by omega)];exact ih (i2+1) (j2-1) _ (by omega) (by omega) (by rw [size_swp];omega) (by rw [size_swp];omega) ((OkdL.swp (by omega) (by omega)).all p hp) (by unfold SzAL;rw [size_swp];exact hs) h
theorem spec {a b pv:Nat} {d:Array (List Int)} (h1:a<=pv) (h2:pv<b) (hb:b<=d.size) (hp:Abp p d) (hs:SzAL d):C a b pv d.toList ((((partition lt d a b pv).1:Nat):Int),(partition lt d a b pv).2.1,(partition lt d a b pv).2.2.toList):=by
 have hs':=hs;unfold SzAL at hs';obtain ⟨r,e1,e2⟩:=enter a b pv d.toList (fun r=>r=((((partition lt d a b pv).1:Nat):Int),(partition lt d a b pv).2.1,(partition lt d a b pv).2.2.toList)) (by
  obtain ⟨x,hx⟩:=agSL (d:=d) (i:=(a:Int)) (x:=d[pv]!) (j:=pv) (by omega);refine ⟨_,agL (by omega),_,agL (by omega),x,hx,?_⟩;rw [Adw,wxL ((a:Int)+1) (a+1) (by omega) (by omega),wxL ((b:Int)-1) (b-1) (by omega) (by omega)];have ho:OkdL d (swp d a pv):=OkdL.swp (by omega) (by omega);have hp1:=ho.all p hp;have hs1:SzAL (swp d a pv):=by unfold SzAL;rw [size_swp];exact hs
  have hz:(swp d a pv).size=d.size:=size_swp d a pv;unfold partition;simp only;generalize swp d a pv=d1 at *;refine up1 hC (by omega) (by omega) hp1 hs1 (b-1+1-(a+1)) (a+1) (Nat.le_refl _) ?_;have hu:=scanUp_ge (fun x=>lt x d1[a]!) d1 (b-1) (a+1);generalize scanUp (fun x=>lt x d1[a]!) d1 (b-1) (a+1)=i2 at hu ⊢;refine down1 hC (by omega) (by omega) hp1 hs1 (b-1) (by omega) ?_;have hd:=scanDown_le (fun x=>!lt x d1[a]!) d1 i2 (b-1);generalize scanDown (fun x=>!lt x d1[a]!) d1 i2 (b-1)=j2 at hd ⊢;apply L4_step;by_cases hlt:i2 > j2
  ·rw [if_pos (by omega)];obtain ⟨x,hx⟩:=agSL (d:=d1) (i:=(j2:Int)) (x:=d1[a]!) (j:=a) (by omega);refine ⟨_,agL (by omega),_,agL (by omega),x,hx,?_⟩;rw [Adw];simp only [if_pos hlt]
  ·rw [if_neg (by omega)];obtain ⟨x,hx⟩:=agSL (d:=d1) (i:=(i2:Int)) (x:=d1[j2]!) (j:=j2) (by omega);refine ⟨_,agL (by omega),_,agL (by omega),x,hx,?_⟩;rw [Adw,wxL ((i2:Int)+1) (i2+1) (by omega) (by omega),wxL ((j2:Int)-1) (j2-1) (by omega) (by omega)]
   exact loop hC (j2-1+1-(i2+1)) (i2+1) (j2-1) _ (Nat.le_refl _) (by omega) (by rw [size_swp];omega) (by rw [size_swp];omega) ((OkdL.swp (by omega) (by omega)).all p hp1) (by unfold SzAL;rw [size_swp];exact hs1) (by simp only [if_neg hlt]))
 rw [← e1];exact e2
end q8_
namespace q1_
theorem up {a j:Nat} {d:Array (List Int)} {φ:Int×List (List Int)->Prop} (ha:a<d.size) (hj:j<d.size) (hp:Abp p d) (hs:SzAL d) (n:Nat):∀ (i:Nat),j+1-i<=n->L3 a (scanUp (fun x=>!lt d[a]! x) d j i) j d.toList φ->L2 a i j d.toList φ:=by
 unfold SzAL at hs
 induction n with
 | zero=>
  intro i hn h;apply L2_step;unfold scanUp at h;rw [if_neg (by simp;omega)] at h;rw [if_neg (by omega)];exact h
 | succ n ih=>
  intro i hn h;apply L2_step;unfold scanUp at h;by_cases hij:i<=j
  ·rw [if_pos (by omega)];refine ⟨_,agL ha,_,agL (by omega),hC.ite (hp _ ha) (hp _ (by omega)) ?_⟩;by_cases hl:lt d[a]! d[i]! = true
   ·rw [if_pos hl];rw [if_neg (by simp [hl])] at h;exact h
   ·rw [if_neg hl];rw [if_pos (by simp [hl,hij])] at h;rw [wxL ((i:Int)+1) (i+1) (by omega) (by omega)];exact ih (i+1) (by omega) h
  ·rw [if_neg (by simp;omega)] at h;rw [if_neg (by omega)];exact h
theorem down {a i:Nat} {d:Array (List Int)} {φ:Int×List (List Int)->Prop} (ha:a<d.size) (hi:1<=i) (hp:Abp p d) (hs:SzAL d) (j:Nat):j<d.size->L4 a i (scanDown (fun x=>lt d[a]! x) d i j) d.toList φ->L3 a i j d.toList φ:=by
 unfold SzAL at hs
 induction j with
 | zero=>
  intro hj h;apply L3_step;rw [if_neg (by omega)];exact h
 | succ j ih=>
  intro hj h;apply L3_step;have e:scanDown (fun x=>lt d[a]! x) d i (j+1)=if i<=j+1&&lt d[a]! d[j+1]! then scanDown (fun x=>lt d[a]! x) d i j else j+1:=rfl
  rw [e] at h;by_cases hij:i<=j+1
  ·rw [if_pos (by omega)];refine ⟨_,agL ha,_,agL hj,hC.ite (hp _ ha) (hp _ hj) ?_⟩;by_cases hl:lt d[a]! d[j+1]! = true
   ·rw [if_pos hl];rw [if_pos (by simp [hl,hij])] at h;rw [wxL (((j+1:Nat):Int)-1) j (by omega) (by omega)];exact ih (by omega) h
   ·rw [if_neg hl];rw [if_neg (by simp [hl])] at h;exact h
  ·rw [if_neg (by simp;omega)] at h;rw [if_neg (by omega)];exact h
theorem loop {a:Nat} {φ:Int×List (List Int)->Prop} (n:Nat):∀ (i j:Nat) (d:Array (List Int)),j+1-i<=n->a<i->a<d.size->j<d.size->Abp p d->SzAL d->φ ((((partEqLoop lt a i j d).1:Nat):Int),(partEqLoop lt a i j d).2.toList)->L1 a i j d.toList φ:=by
 induction n with
 | zero=>
  intro i j d hn hai had hj hp hs h;have hs':=hs;unfold SzAL at hs';apply L1_step;refine up hC (by omega) hj hp hs 0 i (by omega) ?_;have eu:scanUp (fun x=>!lt d[a]! x) d j i=i:=by unfold scanUp;rw [if_neg (by simp;omega)]
  rw [partEqLoop_eq] at h;rw [eu] at h ⊢;refine down hC (by omega) (by omega) hp hs j hj ?_;have hd:=scanDown_le (fun x=>lt d[a]! x) d i j;generalize scanDown (fun x=>lt d[a]! x) d i j=j2 at h hd ⊢;apply L4_step;rw [if_pos (by omega)];rw [if_pos (by omega)] at h;exact h
 | succ n ih=>
  intro i j d hn hai had hj hp hs h;have hs':=hs;unfold SzAL at hs';apply L1_step;refine up hC (by omega) hj hp hs (j+1-i) i (Nat.le_refl _) ?_;rw [partEqLoop_eq] at h;have hu:=scanUp_ge (fun x=>!lt d[a]! x) d j i;generalize scanUp (fun x=>!lt d[a]! x) d j i=i2 at h hu ⊢;refine down hC (by omega) (by omega) hp hs j hj ?_;have hd:=scanDown_le (fun x=>lt d[a]! x) d i2 j;generalize scanDown (fun x=>lt d[a]! x) d i2 j=j2 at h hd ⊢;apply L4_step;by_cases hlt:i2 > j2
  ·rw [if_pos (by omega)];rw [if_pos hlt] at h;exact h
  ·rw [if_neg (by omega)];rw [if_neg hlt] at h;obtain ⟨x,hx⟩:=agSL (d:=d) (i:=(i2:Int)) (x:=d[j2]!) (j:=j2) (by omega);refine ⟨_,agL (by omega),_,agL (by omega),x,hx,?_⟩;rw [Adw,wxL ((i2:Int)+1) (i2+1) (by omega) (by omega),wxL ((j2:Int)-1) (j2-1) (by omega) (by omega)];exact ih (i2+1) (j2-1) _ (by omega) (by omega) (by rw [size_swp];omega) (by rw [size_swp];omega) ((OkdL.swp (by omega) (by omega)).all p hp) (by unfold SzAL;rw [size_swp];exact hs) h
theorem spec {a b pv:Nat} {d:Array (List Int)} (h1:a<=pv) (h2:pv<b) (hb:b<=d.size) (hp:Abp p d) (hs:SzAL d):C a b pv d.toList ((((partitionEqual lt d a b pv).1:Nat):Int),(partitionEqual lt d a b pv).2.toList):=by
 have hs':=hs;unfold SzAL at hs';obtain ⟨r,e1,e2⟩:=enter a b pv d.toList (fun r=>r=((((partitionEqual lt d a b pv).1:Nat):Int),(partitionEqual lt d a b pv).2.toList)) (by
  obtain ⟨x,hx⟩:=agSL (d:=d) (i:=(a:Int)) (x:=d[pv]!) (j:=pv) (by omega);refine ⟨_,agL (by omega),_,agL (by omega),x,hx,?_⟩;rw [Adw,wxL ((a:Int)+1) (a+1) (by omega) (by omega),wxL ((b:Int)-1) (b-1) (by omega) (by omega)];have ho:OkdL d (swp d a pv):=OkdL.swp (by omega) (by omega)
  exact loop hC (b-1+1-(a+1)) (a+1) (b-1) _ (Nat.le_refl _) (by omega) (by rw [size_swp];omega) (by rw [size_swp];omega) (ho.all p hp) (by unfold SzAL;rw [size_swp];exact hs) rfl)
 rw [← e1];exact e2
end q1_
end
end Go.Own
