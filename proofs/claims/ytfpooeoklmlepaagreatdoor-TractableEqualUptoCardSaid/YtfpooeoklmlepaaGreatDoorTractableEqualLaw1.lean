/- No conditions. -/
import Derived.Test.YtfpooeoklmlepaaGreatDoorOwn22
import Derived.Test.YtfpooeoklmlepaaGreatDoorBase2
set_option linter.all false
open List renaming mem_range->zA,sum_cons->zB,nodup_iff_pairwise_ne->zC,mem_cons_of_mem->zD,map_cons->zF,getElem?_of_mem->zG,mem_of_getElem?->zH,nodup_cons->zK,range->zL,mem_cons->zN,nodup_append->zO,getElem?_eq_some_iff->zP,mem_map->zQ,mem_of_mem_erase->zT,getElem?_zipIdx->zU,perm_cons_erase->zV,map_congr_left->zW,mem_singleton->zY,pairwise_map->zZ,idxOf_append->yA,zipIdx_cons->yB,ext_getElem->yC,nodup_range->yD,cons_append->yE,map_append->yF,sum_append->yG,mem_append->yI,nil_append->yJ
open Nat renaming le_refl->zE
open Int renaming le_refl->zI,le_trans->zX
open List.cons renaming injEq->zM
open Classical renaming propDecidable->zR
open Option renaming map_eq_some_iff->zS
open Bool renaming or_eq_true->yH
namespace Go.Own
section
variable{ρ:Type}(eq:ρ->ρ->Nat->Prop)
structure EqvA:Prop where
 refl:∀r a,eq r r a
 symm:∀{r s a},eq r s a->eq s r a
 trans:∀{r s t a},eq r s a->eq s t a->eq r t a
def agA(x:Nat)(r s:ρ):Prop:=∀a,x.testBit a=true->eq r s a
def Aj1(D:List (Nat×Nat))(l:List ρ)(p:ρ->Bool):Prop:=∀r∈l,∀s∈l,p r=true->p s=true->∀d∈D,agA eq d.1 r s->agA eq d.2 r s
def wtA(w:ρ->Int)(l:List ρ)(p:ρ->Bool):Int:=(l.map fun r=>if p r=true then w r else 0).sum
structure BestA(w:ρ->Int)(D:List (Nat×Nat))(l:List ρ)(p:ρ->Bool):Prop where
 cons:Aj1 eq D l p
 best:∀q,Aj1 eq D l q->wtA w l q<=wtA w l p
variable{eq}{w:ρ->Int}
theorem Afu{r:ρ}{l:List ρ}{p:ρ->Bool}:wtA w (r::l) p=(if p r=true then w r else 0)+wtA w l p:=rfl
theorem Baj{l m:List ρ}{p:ρ->Bool}:wtA w (l++m) p=wtA w l p+wtA w m p:=by
 unfold wtA;rw[yF,yG]
theorem Aon{l:List ρ}{p q:ρ->Bool}(h:∀r∈l,p r=q r):wtA w l p=wtA w l q:=by
 unfold wtA;rw[zW fun r hr=>by rw[h r hr]]
theorem Aho(hw:∀r,0<=w r){p:ρ->Bool}:∀{l:List ρ},0<=wtA w l p
 |[]=>zI _
 |r::l=>by
  rw[Afu];have:=Aho hw (p:=p) (l:=l);have:=hw r
  split<;>omega
theorem Ar2(hw:∀r,0<=w r){p q:ρ->Bool}:∀{l:List ρ},(∀r∈l,p r=true->q r=true)->wtA w l p<=wtA w l q
 |[],_=>zI _
 |r::l,h=>by
  rw[Afu,Afu];have h1:=Ar2 hw (l:=l) fun s hs=>h s (by simp[hs]);have h2:=hw r;have h3:=h r (by simp);by_cases hp:p r=true
  .rw [if_pos hp,if_pos (h3 hp)];omega
  .rw [if_neg hp];split<;>omega
theorem Ayi{p:ρ->Bool}{l m:List ρ}(h:l.Perm m):wtA w l p=wtA w m p:=by
 unfold wtA
 induction h with
 |nil=>rfl
 |cons x _ ih=>simp only[zF,zB,ih]
 |swap x y l=>simp only[zF,zB];omega
 |trans _ _ h1 h2=>exact h1.trans h2
theorem Ar1{p:ρ->Bool}:∀{gs:List (List ρ)},wtA w gs.flatten p=(gs.map fun g=>wtA w g p).sum
 |[]=>rfl
 |g::gs=>by
  rw[List.flatten_cons,Baj,Ar1,zF,zB]
theorem Aya{α:Type}{f g:α->Int}:∀{l:List α},(∀x∈l,f x<=g x)->(l.map f).sum<=(l.map g).sum
 |[],_=>zI _
 |x::l,h=>by
  rw[zF,zF,zB,zB];have h1:=Aya (f:=f) (g:=g) (l:=l) fun y hy=>h y (by simp[hy]);have h2:=h x (by simp);omega
theorem Bez(hw:∀r,0<=w r)(l:List ρ):BestA eq w [] l fun _=>true:=
 ⟨fun _ _ _ _ _ _ d hd=>(by cases hd),fun q _=>Ar2 hw fun _ _ _=>rfl⟩
where ndA (x s:Nat):Nat:=x ^^^ (x &&& s)
def Avx(eq:ρ->ρ->Nat->Prop)(s:Nat)(D D':List (Nat×Nat)):Prop:=∀r t,agA eq s r t->((∀d∈D,agA eq d.1 r t->agA eq d.2 r t)↔∀d∈D',agA eq d.1 r t->agA eq d.2 r t)
theorem Aki{s:Nat}{D D':List (Nat×Nat)}(h:Avx eq s D D'){l:List ρ}(hl:∀r∈l,∀t∈l,agA eq s r t){p:ρ->Bool}:Aj1 eq D l p↔Aj1 eq D' l p:=by
 unfold Aj1;constructor
 .intro k r hr t ht hp hq;exact(h r t (hl r hr t ht)).1 (k r hr t ht hp hq)
 .intro k r hr t ht hp hq;exact(h r t (hl r hr t ht)).2 (k r hr t ht hp hq)
theorem Au8{s:Nat}{D D':List (Nat×Nat)}(h:Avx eq s D D'){l:List ρ}(hl:∀r∈l,∀t∈l,agA eq s r t){p:ρ->Bool}:BestA eq w D l p↔BestA eq w D' l p:=
 ⟨fun k=>⟨(Aki h hl).1 k.cons,fun q hq=>k.best q ((Aki h hl).2 hq)⟩,fun k=>⟨(Aki h hl).2 k.cons,fun q hq=>k.best q ((Aki h hl).1 hq)⟩⟩
structure GroupsA(eq:ρ->ρ->Nat->Prop)(s:Nat)(l:List ρ)(gs:List (List ρ)):Prop where
 perm:l.Perm gs.flatten
 same:∀g∈gs,∀r∈g,∀t∈g,agA eq s r t
 diff:∀(i j:Nat)(g h:List ρ),gs[i]?=some g->gs[j]?=some h->i≠j->∀r∈g,∀t∈h,¬agA eq s r t
 ne:∀g∈gs,g≠[]
theorem GroupsA.mem{s:Nat}{l:List ρ}{gs:List (List ρ)}(h:GroupsA eq s l gs){r:ρ}:r∈l↔∃(i:Nat)(g:List ρ),gs[i]?=some g/\r∈g:=by
 rw[h.perm.mem_iff,List.mem_flatten];constructor
 .rintro ⟨g,hg,hr⟩;obtain⟨i,hi⟩:=zG hg;exact⟨i,g,hi,hr⟩
 .rintro ⟨i,g,hi,hr⟩;exact⟨g,zH hi,hr⟩
theorem GroupsA.one(he:EqvA eq){s:Nat}{l:List ρ}{gs:List (List ρ)}(h:GroupsA eq s l gs){i j:Nat}{g k:List ρ}(hi:gs[i]?=some g)(hj:gs[j]?=some k){r:ρ}(hr:r∈g)(hr2:r∈k):i=j:=by
 false_or_by_contra
 rename_i hij;exact h.diff i j g k hi hj hij r hr r hr2 fun a _=>he.refl r a
theorem GroupsA.cons_in{s:Nat}{D:List (Nat×Nat)}{l:List ρ}{gs:List (List ρ)}(h:GroupsA eq s l gs){q:ρ->Bool}(hq:Aj1 eq D l q){g:List ρ}(hg:g∈gs):Aj1 eq D g q:=fun r hr t ht=>by
 obtain⟨i,hi⟩:=zG hg;exact hq r (h.mem.2 ⟨i,g,hi,hr⟩) t (h.mem.2 ⟨i,g,hi,ht⟩)
open Classical in
noncomputable def Ahg(gs:List (List ρ))(ps:Nat->ρ->Bool)(M:Nat->Bool)(r:ρ):Bool:=decide (∃(i:Nat)(g:List ρ),gs[i]?=some g/\r∈g/\M i=true/\ps i r=true)
theorem Ae2{gs:List (List ρ)}{ps:Nat->ρ->Bool}{M:Nat->Bool}{r:ρ}:Ahg gs ps M r=true↔∃(i:Nat)(g:List ρ),gs[i]?=some g/\r∈g/\M i=true/\ps i r=true:=by
 unfold Ahg;exact @decide_eq_true_iff _ (zR _)
theorem Axy(he:EqvA eq){s:Nat}{l:List ρ}{gs:List (List ρ)}(h:GroupsA eq s l gs){ps:Nat->ρ->Bool}{M:Nat->Bool}{i:Nat}{g:List ρ}(hi:gs[i]?=some g){r:ρ}(hr:r∈g):Ahg gs ps M r=(M i&&ps i r):=by
 rw[Bool.eq_iff_iff,Ae2,Bool.and_eq_true];constructor
 .rintro ⟨j,k,hj,hk,h1,h2⟩;have:=h.one he hi hj hr hk;subst this;exact⟨h1,h2⟩
 .rintro ⟨h1,h2⟩;exact⟨i,g,hi,hr,h1,h2⟩
theorem Ar4:∀{l:List ρ},wtA w l (fun _=>false)=0
 |[]=>rfl
 |r::l=>by rw[Afu,Ar4];rfl
theorem Ar3{l:List ρ}{p:ρ->Bool}(h:∀r∈l,p r=false):wtA w l p=0:=by
 rw[Aon h,Ar4]
theorem Ayb{α:Type}{f:α->Nat->Int}{m:Nat}:∀{L:List α}{k:Nat},m<k->((L.zipIdx k).map fun y=>if y.2=m then f y.1 y.2 else 0).sum=0
 |[],_,_=>rfl
 |a::L,k,h=>by
  rw[yB,zF,zB,if_neg (by simp only;omega),Ayb (L:=L) (k:=k+1) (by omega)];rfl
theorem Au0{α:Type}{f:α->Nat->Int}{m:Nat}{x:α}:∀{L:List α}{k:Nat},k<=m->L[m-k]?=some x->((L.zipIdx k).map fun y=>if y.2=m then f y.1 y.2 else 0).sum=f x m
 |[],_,_,h=>by simp at h
 |a::L,k,hk,h=>by
  rw[yB,zF,zB];by_cases hkm:k=m
  .subst hkm;rw[Nat.sub_self]at h;simp only[List.getElem?_cons_zero,zJ]at h;subst h;rw[if_pos rfl,Ayb (by omega)];simp
  .obtain ⟨d,hd⟩:∃d,m-k=d+1:=⟨m-k-1,by omega⟩
   rw[hd,List.getElem?_cons_succ]at h;rw[if_neg (by simpa using hkm),Au0 (L:=L) (k:=k+1) (by omega) (by rw[show m-(k+1)=d by omega];exact h)];simp
theorem Bea{α:Type}{f g:α->Int}{l:List α}(h:∀x∈l,f x=g x):(l.map f).sum=(l.map g).sum:=by
 rw[zW h]
theorem Bak{α:Type}{l:List α}{x:α×Nat}(h:x∈l.zipIdx):l[x.2]?=some x.1:=by
 obtain⟨i,hi⟩:=zG h;rw[zU]at hi;obtain⟨g,hg,rfl⟩:=zS.1 hi;simpa using hg
theorem Apa(he:EqvA eq){s:Nat}{l:List ρ}{gs:List (List ρ)}(h:GroupsA eq s l gs){ps:Nat->ρ->Bool}{M:Nat->Bool}:wtA w l (Ahg gs ps M)=(gs.zipIdx.map fun x=>if M x.2=true then wtA w x.1 (ps x.2)else 0).sum:=by
 rw[Ayi h.perm,Ar1];have e:gs.map (fun g=>wtA w g (Ahg gs ps M))=gs.zipIdx.map fun x=>if M x.2=true then wtA w x.1 (ps x.2)else 0:=by
  apply yC
  .simp
  .intro i h1 h2;simp only[List.getElem_map,List.getElem_zipIdx,Nat.zero_add];rw[List.length_map]at h1;have hi:=List.getElem?_eq_getElem h1;by_cases hM:M i=true
   .rw [if_pos hM];exact Aon fun r hr=>by rw[Axy he h hi hr,hM];rfl
   .rw [if_neg hM];have:wtA w gs[i] (Ahg gs ps M)=wtA w gs[i] fun _=>false:=Aon fun r hr=>by
     rw[Axy he h hi hr,show M i=false by simpa using hM];rfl
    rw[this,Ar4]
 rw[e]
theorem Aoo{s:Nat}{l:List ρ}{gs:List (List ρ)}(h:GroupsA eq s l gs){q:ρ->Bool}:wtA w l q=(gs.zipIdx.map fun x=>wtA w x.1 q).sum:=by
 rw[Ayi h.perm,Ar1];congr 1;apply yC
 .simp
 .intro i h1 h2;simp
theorem Ayr(he:EqvA eq){s:Nat}{D:List (Nat×Nat)}{l:List ρ}{gs:List (List ρ)}(h:GroupsA eq s l gs)(hs:∀d∈D,∀a,s.testBit a=true->d.1.testBit a=true){ps:Nat->ρ->Bool}(hb:∀i g,gs[i]?=some g->BestA eq w D g (ps i)):BestA eq w D l (Ahg gs ps fun _=>true):=by
 refine⟨fun r hr t ht hp hq d hd ha=>?_,fun q hq=>?_⟩
 .obtain ⟨i,g,hi,hri,_,hpi⟩:=Ae2.1 hp;obtain⟨j,k,hj,htj,_,hpj⟩:=Ae2.1 hq;by_cases hij:i=j
  .subst hij;rw[hi]at hj;cases hj;exact(hb i g hi).cons r hri t htj hpi hpj d hd ha
  .exact absurd (fun a ha'=>ha a (hs d hd a ha')) (h.diff i j g k hi hj hij r hri t htj)
 .rw [Apa he h,Aoo h];refine Aya fun x hx=>?_;obtain⟨i,hi⟩:=zG hx;rw[zU]at hi;obtain⟨g,hg,rfl⟩:=zS.1 hi;simp only[Nat.zero_add,if_true];exact(hb i g hg).best q (h.cons_in hq (zH hg))
theorem Atc(he:EqvA eq)(hw:∀r,0<=w r){s:Nat}{D:List (Nat×Nat)}{l:List ρ}{gs:List (List ρ)}(h:GroupsA eq s l gs)(hs:∀r t,(∀d∈D,agA eq d.1 r t->agA eq d.2 r t)->agA eq s r t){ps:Nat->ρ->Bool}(hb:∀i g,gs[i]?=some g->BestA eq w D g (ps i)){m:Nat}{gX:List ρ}(hm:gs[m]?=some gX)(hmax:∀i g,gs[i]?=some g->wtA w g (ps i)<=wtA w gX (ps m)):BestA eq w D l (Ahg gs ps fun i=>decide (i=m)):=by
 have hwt:wtA w l (Ahg gs ps fun i=>decide (i=m))=wtA w gX (ps m):=by
  rw[Apa he h];simp only[decide_eq_true_eq];exact Au0 (f:=fun g i=>wtA w g (ps i)) (Nat.zero_le m) hm
 refine⟨fun r hr t ht hp hq d hd ha=>?_,fun q hq=>?_⟩
 .obtain ⟨i,g,hi,hri,hMi,hpi⟩:=Ae2.1 hp;obtain⟨j,k,hj,htj,hMj,hpj⟩:=Ae2.1 hq;rw[decide_eq_true_eq]at hMi hMj;subst hMi;subst hMj;rw[hi]at hj;cases hj;exact(hb _ g hi).cons r hri t htj hpi hpj d hd ha
 .rw [hwt];by_cases hex:∃r,r∈l/\q r=true
  .obtain ⟨r,hr,hqr⟩:=hex;obtain⟨i,g,hi,hri⟩:=h.mem.1 hr;have:wtA w l q=wtA w g q:=by
    rw[Aoo h];rw[Bea (g:=fun x=>if x.2=i then(fun(g:List ρ)(_:Nat)=>wtA w g q) x.1 x.2 else 0) fun x hx=>?_]
    .exact Au0 (f:=fun g _=>wtA w g q) (Nat.zero_le i) hi
    .have hx:=Bak hx;by_cases hxi:x.2=i
     .rw [if_pos hxi]
     .rw [if_neg hxi];refine Ar3 fun t ht=>?_;cases hqt:q t with
      |false=>rfl
      |true=>
       exfalso;have htl:t∈l:=h.mem.2 ⟨x.2,x.1,hx,ht⟩;exact h.diff x.2 i x.1 g hx hi hxi t ht r hri (hs t r fun d hd=>hq t htl r hr hqt hqr d hd)
   rw[this];exact zX ((hb i g hi).best q (h.cons_in hq (zH hi))) (hmax i g hi)
  .rw [Ar3 fun r hr=>?_]
   .exact Aho hw
   .cases hqr:q r with
    |false=>rfl
    |true=>exact absurd ⟨r,hr,hqr⟩ hex
def Aw8(gs:List (List ρ))(x y:Nat->Nat)(M:Nat->Bool):Prop:=∀i j,i<gs.length->j<gs.length->M i=true->M j=true->x i=x j∨y i=y j->i=j
open Classical in
noncomputable def Aw5(gs:List (List ρ))(q:ρ->Bool)(i:Nat):Bool:=decide (∃g r,gs[i]?=some g/\r∈g/\q r=true)
theorem Aoc{gs:List (List ρ)}{q:ρ->Bool}{i:Nat}:Aw5 gs q i=true↔∃g r,gs[i]?=some g/\r∈g/\q r=true:=by
 unfold Aw5;exact @decide_eq_true_iff _ (zR _)
theorem Avn(he:EqvA eq){a b:Nat}{D:List (Nat×Nat)}{l:List ρ}{gs:List (List ρ)}(h:GroupsA eq (a ||| b) l gs)(hcl:∀r t,(∀d∈D,agA eq d.1 r t->agA eq d.2 r t)->(agA eq a r t↔agA eq b r t))(hcov:∀d∈D,(∀i,a.testBit i=true->d.1.testBit i=true)∨∀i,b.testBit i=true->d.1.testBit i=true)
  {x y:Nat->Nat} (hx:∀(i j:Nat)(g k:List ρ),gs[i]?=some g->gs[j]?=some k->∀r∈g,∀t∈k,x i=x j↔agA eq a r t) (hy:∀(i j:Nat)(g k:List ρ),gs[i]?=some g->gs[j]?=some k->∀r∈g,∀t∈k,y i=y j↔agA eq b r t)
  {ps:Nat->ρ->Bool} (hb:∀i g,gs[i]?=some g->BestA eq w D g (ps i)) {M:Nat->Bool} (hM:Aw8 gs x y M) (hmax:∀N,Aw8 gs x y N->(gs.zipIdx.map fun z=>if N z.2=true then wtA w z.1 (ps z.2)else 0).sum<=(gs.zipIdx.map fun z=>if M z.2=true then wtA w z.1 (ps z.2)else 0).sum):BestA eq w D l (Ahg gs ps M):=by
 refine⟨fun r hr t ht hp hq d hd ha=>?_,fun q hq=>?_⟩
 .obtain ⟨i,g,hi,hri,hMi,hpi⟩:=Ae2.1 hp;obtain⟨j,k,hj,htj,hMj,hpj⟩:=Ae2.1 hq;by_cases hij:i=j
  .subst hij;rw[hi]at hj;cases hj;exact(hb i g hi).cons r hri t htj hpi hpj d hd ha
  .exfalso;have li:=(zP.1 hi).1;have lj:=(zP.1 hj).1;rcases hcov d hd with hc|hc
   .exact hij (hM i j li lj hMi hMj (.inl ((hx i j g k hi hj r hri t htj).2 fun z hz=>ha z (hc z hz))))
   .exact hij (hM i j li lj hMi hMj (.inr ((hy i j g k hi hj r hri t htj).2 fun z hz=>ha z (hc z hz))))
 .have hN:Aw8 gs x y (Aw5 gs q):=by
   intro i j _ _ hi hj hor;obtain⟨g,r,hg,hr,hqr⟩:=Aoc.1 hi;obtain⟨k,t,hk,ht,hqt⟩:=Aoc.1 hj;have hrl:r∈l:=h.mem.2 ⟨i,g,hg,hr⟩;have htl:t∈l:=h.mem.2 ⟨j,k,hk,ht⟩;have hall:=hcl r t fun d hd=>hq r hrl t htl hqr hqt d hd;have hab:agA eq a r t/\agA eq b r t:=by
    rcases hor with e|e
    .have h1:=(hx i j g k hg hk r hr t ht).1 e;exact⟨h1,hall.1 h1⟩
    .have h1:=(hy i j g k hg hk r hr t ht).1 e;exact⟨hall.2 h1,h1⟩
   false_or_by_contra
   rename_i hij;refine h.diff i j g k hg hk hij r hr t ht fun z hz=>?_;rw[Nat.testBit_or,yH]at hz;rcases hz with hz|hz
   .exact hab.1 z hz
   .exact hab.2 z hz
  rw[Apa he h,Aoo h];refine zX (Aya fun z hz=>?_) (hmax _ hN);have hz:=Bak hz;by_cases hs:Aw5 gs q z.2=true
  .rw [if_pos hs];exact(hb z.2 z.1 hz).best q (h.cons_in hq (zH hz))
  .rw [if_neg hs,Ar3 fun r hr=>?_]
   .exact zI _
   .cases hqr:q r with
    |false=>rfl
    |true=>exact absurd (Aoc.2 ⟨z.1,r,hz,hr,hqr⟩) hs
end
section
variable{ρ:Type}{eq:ρ->ρ->Nat->Prop}{w:ρ->Int}
theorem Ayh(hw:∀r,0<=w r){p q:ρ->Bool}:∀{l:List ρ},(∀r∈l,p r=true->q r=true)->∀{r:ρ},r∈l->p r=false->q r=true->wtA w l p+w r<=wtA w l q
 |[],_,_,hr,_,_=>by cases hr
 |s::l,h,r,hr,hp,hq=>by
  rw[Afu,Afu];have h3:=h s (by simp);have hs:=hw s;rcases zN.1 hr with rfl|hr
  .have h1:=Ar2 hw (l:=l) fun t ht=>h t (by simp[ht]);rw[hp,hq];simp only[Bool.false_eq_true,if_false,if_true];omega
  .have h1:=Ayh hw (l:=l) (fun t ht=>h t (by simp[ht])) hr hp hq;by_cases hps:p s=true
   .rw [if_pos hps,if_pos (h3 hps)];omega
   .rw [if_neg hps];split<;>omega
open Classical in
theorem Awl(he:EqvA eq)(hw:∀r,0<=w r){D:List (Nat×Nat)}{l:List ρ}{p:ρ->Bool}(h:BestA eq w D l p){r:ρ}(hr:r∈l)(hwr:0<w r)(hok:∀s∈l,p s=true->∀d∈D,agA eq d.1 r s->agA eq d.2 r s):p r=true:=by
 cases hp:p r with
 |true=>rfl
 |false=>
  exfalso;have hsym:∀{x:Nat}{s t:ρ},agA eq x s t->agA eq x t s:=fun k a ha=>he.symm (k a ha);have hc:Aj1 eq D l fun s=>p s || decide (s=r):=by
   intro s hs t ht hps hpt d hd ha;simp only[yH,decide_eq_true_eq]at hps hpt;rcases hps with hps|rfl
   .rcases hpt with hpt|rfl
    .exact h.cons s hs t ht hps hpt d hd ha
    .exact hsym (hok s hs hps d hd (hsym ha))
   .rcases hpt with hpt|rfl
    .exact hok t ht hpt d hd ha
    .exact fun a _=>he.refl _ a
  have h1:=h.best _ hc;have h2:=Ayh hw (q:=fun s=>p s || decide (s=r)) (l:=l) (fun s _ hs=>by simp[hs]) hr hp (by simp);omega
theorem Bao(he:EqvA eq)(hw:∀r,0<=w r){D:List (Nat×Nat)}{l:List ρ}{p:ρ->Bool}(h:BestA eq w D l p){r s:ρ}(hr:r∈l)(hs:s∈l)(hwr:0<w r)(heq:∀a,eq r s a)(hp:p s=true):p r=true:=
 Awl he hw h hr hwr fun t ht hpt d hd ha a hb=>
  he.trans (heq a) (h.cons s hs t ht hp hpt d hd (fun b hb=>he.trans (he.symm (heq b)) (ha b hb)) a hb)
theorem Bam(he:EqvA eq)(hw:∀r,0<=w r){D:List (Nat×Nat)}{l:List ρ}{p:ρ->Bool}(h:BestA eq w D l p){r:ρ}(hr:r∈l)(hwr:0<w r)(hal:∀s∈l,s=r∨∀d∈D,¬agA eq d.1 r s):p r=true:=
 Awl he hw h hr hwr fun s hs _ d hd ha=>by
  rcases hal s hs with rfl|hn
  .exact fun a _=>he.refl _ a
  .exact absurd ha (hn d hd)
end
def free:List Bool->Nat
 |[]=>0
 |b::l=>(if b then 0 else 1)+free l
structure CP(rows:Int)(cs:List (List Int)):Prop where
 two:∀c∈cs,2<=c.length
 inc:∀c∈cs,c.Pairwise (·<·)
 inn:∀c∈cs,∀i∈c,0<=i/\i<rows
 heads:cs.Pairwise fun c d=>c.headD 0<d.headD 0
 disj:cs.Pairwise fun c d=>∀i∈c,i ∉ d
def idx:Nat->List (List Int)->List (Int×List Int)
 |_,[]=>[]
 |k,c::cs=>((k:Int),c)::idx (k+1) cs
def fsts{α:Type}[DecidableEq α](l:List α):List α:=l.foldl (fun acc a=>if a∈acc then acc else acc++[a]) []
section
variable{α:Type}[DecidableEq α]
theorem Ans{l:List α}{a:α}:fsts (l++[a])=if a∈fsts l then fsts l else fsts l++[a]:=by
 unfold fsts;rw[List.foldl_append];rfl
theorem An0{p:List α->Prop}(h0:p [])(h1:∀l a,p l->p (l++[a])):∀l,p l:=by
 intro l;have:∀n (l:List α),l.length=n->p l:=by
  intro n
  induction n with
  |zero=>intro l hl;rw[List.length_eq_zero_iff.1 hl];exact h0
  |succ n ih=>
   intro l hl;have hne:l≠[]:=fun h=>by rw[h]at hl;simp at hl
   rw[<-List.dropLast_concat_getLast hne];exact h1 _ _ (ih _ (by simp[hl]))
 exact this _ l rfl
theorem Bfq{l:List α}{a:α}:a∈fsts l↔a∈l:=by
 refine An0 (p:=fun l=>a∈fsts l↔a∈l) (by simp[fsts]) (fun l b ih=>?_) l;rw[Ans]
 split
 .rename_i hb;rw[ih];simp only[yI,zY];constructor
  .exact .inl
  .rintro (h|rfl)
   .exact h
   .have:a∈fsts l:=hb;exact ih.1 this
 .simp only[yI,zY,ih]
theorem Bb3{l:List α}:(fsts l).Nodup:=by
 refine An0 (p:=fun l=>(fsts l).Nodup) (by simp[fsts]) (fun l b ih=>?_) l;rw[Ans]
 split
 .exact ih
 .rename_i hb;rw[zO];exact⟨ih,by simp,fun x hx y hy=>by simp at hy;subst hy;exact fun h=>hb (h ▸ hx)⟩
end
theorem Agw{κ ν:Type}[DecidableEq κ]{k k':κ}{v:ν}:∀{l:List (κ×ν)},mget k' (mset k v l)=if k=k' then some v else mget k' l
 |[]=>by
  by_cases h:k=k'
  .subst h;simp[mset,mget]
  .simp [mset,mget,h,Ne.symm h]
 |(a,b)::l=>by
  have ih:=Agw (k:=k) (k':=k') (v:=v) (l:=l);simp only[mset];by_cases h1:k=a
  .subst h1;simp only[if_true,mget];by_cases h2:k'=k
   .subst h2;simp
   .simp [h2,Ne.symm h2]
  .simp only[if_neg h1,mget];by_cases h2:k'=a
   .subst h2;simp[h1]
   .simp only[if_neg h2];exact ih
def farZ:Int:=1152921504606846976
structure MtxA(c:Nat->Nat->Int)(R C:Nat)(E:Int):Prop where
 le:R<=C
 bnd:∀r j,r<R->j<C->-E<=c r j/\c r j<=E
structure AsgA(c:Nat->Nat->Int)(C i:Nat)(B:Int)(u v row:Nat->Int):Prop where
 rng:∀j,j<C->row j = -1∨0<=row j/\row j<i
 inj:∀j k,j<C->k<C->0<=row j->row j=row k->j=k
 sur:∀r:Nat,r<i->∃j,j<C/\row j=(r:Int)
 feas:∀r j,r<i->j<C->u r+v j<=c r j
 tight:∀(r j:Nat),j<C->row j=(r:Int)->u r+v j=c r j
 neg:∀j,j<C->v j<=0
 free:∀j,j<C->row j = -1->v j=0
 zero:∀r,i<=r->u r=0
 bu:∀r,r<i->-B<=u r/\u r<=B
 bv:∀j,j<C->-B<=v j
theorem Be0{C i:Nat}{f:Nat->Nat}(h1:∀j,j<C->f j<i)(h2:∀j k,j<C->k<C->f j=f k->j=k):C<=i:=by
 have hn:((zL C).map f).Nodup:=by
  rw[zC,zZ];refine(zC.1 yD).imp_of_mem fun {a b} ha hb hab he=>hab (h2 a b (zA.1 ha) (zA.1 hb) he)
 have:=hn.length_le_of_subset (l₂:=zL i) fun x hx=>by
  obtain⟨j,hj,rfl⟩:=zQ.1 hx;exact zA.2 (h1 j (zA.1 hj))
 simpa using this
section
variable{c:Nat->Nat->Int}{R C i:Nat}{E B:Int}{u0 v0 row:Nat->Int}
theorem AsgA.hole(h:AsgA c C i B u0 v0 row)(hi:i<C):∃j,j<C/\row j = -1:=by
 false_or_by_contra
 rename_i hno;have hall:∀j,j<C->0<=row j/\row j<i:=fun j hj=>(h.rng j hj).resolve_left fun h0=>hno ⟨j,hj,h0⟩;have:=Be0 (C:=C) (i:=i) (f:=fun j=>(row j).toNat) (fun j hj=>by have:=hall j hj;omega) (fun j k hj hk he=>by
  have h1:=hall j hj;have h2:=hall k hk
  exact h.inj j k hj hk h1.1 (by omega))
 omega
structure SrcA(c:Nat->Nat->Int)(C i:Nat)(E:Int)(u0 v0 row:Nat->Int)(D:List Nat)(a:Nat)(u v best:Nat->Int)(frm:Nat->Nat)(t1:Int):Prop where
 nodup:(a::D).Nodup
 le:∀j∈D,j<=C
 first:D=[]->a=C
 later:D≠[]->C∈D/\a<C
 rowD:∀j∈D,0<=row j
 feas:∀r j,r<i->j<C->u r+v j<=c r j
 feasI:D≠[]->∀j,j<C->u i+v j<=c i j
 tight:∀(r j:Nat),j<C->row j=(r:Int)->u r+v j=c r j
 neg:∀j,j<C->v j<=0
 free:∀j,j<C->row j = -1->v j=0
 zero:∀r,i<r∨D=[]/\r=i->u r=0
 far:D=[]->∀j,j<C->best j=farZ
 low:∀j,j<C->j ∉ D->∀d∈D,∀r:Nat,row d=(r:Int)->best j<=c r j-u r-v j
 att:D≠[]->∀j,j<C->j ∉ D->frm j∈D/\∀r:Nat,row (frm j)=(r:Int)->best j=c r j-u r-v j
 tree:∀A j S,D=A++j::S->j≠C->frm j∈S/\∀r:Nat,row (frm j)=(r:Int)->u r+v j=c r j
 here:D≠[]->best a=0
 t0:D=[]->u i=t1
 t1E : -E<=t1∨D=[]
 up:t1<=u i
 bu:∀r,r<i->u0 r<=u r/\u r<=u0 r+(u i-t1)
 bv:∀j,j<C->v0 j-(u i-t1)<=v j/\v j<=v0 j
theorem SrcA.start(h:AsgA c C i B u0 v0 row){best:Nat->Int}(hb:∀j,j<C->best j=farZ){frm:Nat->Nat}:SrcA c C i E u0 v0 row [] C u0 v0 best frm 0 where
 nodup:=by simp
 le:=by simp
 first:=fun _=>rfl
 later:=fun h=>absurd rfl h
 rowD:=by simp
 feas:=h.feas
 feasI:=fun h=>absurd rfl h
 tight:=h.tight
 neg:=h.neg
 free:=h.free
 zero:=fun r hr=>h.zero r (by omega)
 far:=fun _=>hb
 low:=by simp
 att:=fun h=>absurd rfl h
 tree:=fun A j S h=>by simp at h
 here:=fun h=>absurd rfl h
 t0:=fun _=>h.zero i (zE _)
 t1E:=.inr rfl
 up:=by rw[h.zero i (zE _)];exact zI _
 bu:=fun r _=>by rw[h.zero i (zE _)];omega
 bv:=fun j _=>by rw[h.zero i (zE _)];omega
theorem Aeb(hA:AsgA c C i B u0 v0 row)(hC:row C=(i:Int)){j:Nat}(hj:j<=C)(h0:0<=row j):∃r:Nat,row j=(r:Int)/\r<=i/\(j=C↔r=i):=by
 by_cases hjC:j=C
 .subst hjC;exact⟨i,hC,zE _,by simp⟩
 .rcases hA.rng j (by omega)with h|⟨h1,h2⟩
  .omega
  .exact ⟨(row j).toNat,by omega,by omega,by constructor<;>intro h<;>omega⟩
theorem Amm(hA:AsgA c C i B u0 v0 row)(hC:row C=(i:Int)){j k:Nat}(hj:j<=C)(hk:k<=C){r:Nat}(h1:row j=(r:Int))(h2:row k=(r:Int)):j=k:=by
 obtain⟨r1,e1,_,c1⟩:=Aeb hA hC hj (by omega);obtain⟨r2,e2,_,c2⟩:=Aeb hA hC hk (by omega);have:r1=r:=by omega
 have:r2=r:=by omega
 by_cases hjC:j=C
 .have:=c1.1 hjC;rw[hjC,c2.2 (by omega)]
 .by_cases hkC:k=C
  .exact absurd (c1.2 (by have:=c2.1 hkC;omega)) hjC
  .exact hA.inj j k (by omega) (by omega) (by omega) (by omega)
theorem SrcA.step(hM:MtxA c R C E)(hA:AsgA c C i B u0 v0 row)(hC:row C=(i:Int))(hi:i<R)(hB:0<=B/\E+E+B<farZ){D:List Nat}{a:Nat}{u v best:Nat->Int}{frm:Nat->Nat}{t1:Int}(h:SrcA c C i E u0 v0 row D a u v best frm t1)
  {r0:Nat} (hr0:row a=(r0:Int)) {best1 best2 u2 v2:Nat->Int} {frm1:Nat->Nat} {nx:Nat} {least:Int}
  (b1:∀j,j<C->j ∉ a::D->best1 j=(if c r0 j-u r0-v j<best j then c r0 j-u r0-v j else best j)/\frm1 j=if c r0 j-u r0-v j<best j then a else frm j)
  (f1:∀j,j∈a::D->frm1 j=frm j)
  (n1:nx<C/\nx ∉ a::D/\least=best1 nx/\∀j,j<C->j ∉ a::D->least<=best1 j)
  (hu:∀r:Nat,(∀j∈a::D,row j=(r:Int)->u2 r=u r+least)/\((∀j∈a::D,row j≠(r:Int))->u2 r=u r))
  (hv:∀j,j<C->(j∈a::D->v2 j=v j-least)/\(j ∉ a::D->v2 j=v j))
  (b2:∀j,j<C->j ∉ a::D->best2 j=best1 j-least):∃t2,SrcA c C i E u0 v0 row (a::D) nx u2 v2 best2 frm1 t2:=by
 obtain⟨n2,n3,n4,n5⟩:=n1;have haC:a<=C:=by
  by_cases hD:D=[]
  .rw [h.first hD];exact zE _
  .exact Nat.le_of_lt (h.later hD).2
 have haD:a ∉ D:=(zK.1 h.nodup).1;have leD:∀j∈a::D,j<=C:=fun j hj=>by
  rcases zN.1 hj with rfl|hj
  .exact haC
  .exact h.le j hj
 have rwD:∀j∈a::D,0<=row j:=fun j hj=>by
  rcases zN.1 hj with rfl|hj
  .omega
  .exact h.rowD j hj
 have hCin:C∈a::D:=by
  by_cases hD:D=[]
  .rw [h.first hD];simp
  .exact zD _ (h.later hD).1
 have ui:u2 i=u i+least:=(hu i).1 C hCin hC;have low1:∀j,j<C->j ∉ a::D->∀d∈a::D,∀r:Nat,row d=(r:Int)->best1 j<=c r j-u r-v j:=fun j hj hjD d hd r hr=>by
  have hb:=(b1 j hj hjD).1;rcases zN.1 hd with rfl|hd
  .have:r=r0:=by omega
   subst this;rw[hb];split<;>omega
  .have:=h.low j hj (fun hh=>hjD (zD _ hh)) d hd r hr;rw[hb];split<;>omega
 have fin1:∀j,j<C->D=[]->c r0 j-u r0-v j<best j:=fun j hj hD=>by
  have e0:r0=i:=by
   have:=h.first hD
   rw[this,hC]at hr0;omega
  rw[h.far hD j hj,e0,h.zero i (.inr ⟨hD,rfl⟩)];have h1:=hM.bnd i j hi hj;have h2:=(h.bv j hj).1;have h3:=h.t0 hD;have h4:=hA.bv j hj;omega
 have att1:∀j,j<C->j ∉ a::D->frm1 j∈a::D/\∀r:Nat,row (frm1 j)=(r:Int)->best1 j=c r j-u r-v j:=fun j hj hjD=>by
  obtain⟨e1,e2⟩:=b1 j hj hjD;by_cases hlt:c r0 j-u r0-v j<best j
  .rw [if_pos hlt]at e1 e2;rw[e1,e2];refine⟨by simp,fun r hr=>?_⟩;have:r=r0:=by omega
   rw[this]
  .rw [if_neg hlt]at e1 e2;have hD:D≠[]:=fun hD=>hlt (fin1 j hj hD);obtain⟨g1,g2⟩:=h.att hD j hj fun hh=>hjD (zD _ hh);rw[e1,e2];exact⟨zD _ g1,g2⟩
 have pos:D≠[]->0<=least:=fun hD=>by
  obtain⟨g1,g2⟩:=att1 nx n2 n3;obtain⟨r,e,hri,_⟩:=Aeb hA hC (leD _ g1) (rwD _ g1);rw[n4,g2 r e];by_cases hr:r=i
  .have:=h.feasI hD nx n2;rw[hr];omega
  .have:=h.feas r nx (by omega) n2;omega
 have noD:D=[]->∀j,j<C->j ∉ a::D:=fun hD j hj hjD=>by
  subst hD;have:=h.first rfl
  simp at hjD;omega
 have uge:∀r,r<i->u r<=u2 r/\(u2 r=u r∨u2 r=u r+least/\D≠[]):=fun r hr=>by
  by_cases hex:∃j∈a::D,row j=(r:Int)
  .obtain ⟨j,hj,hjr⟩:=hex;have e:=(hu r).1 j hj hjr;have hD:D≠[]:=fun hD=>by
    subst hD;have:=h.first rfl
    simp at hj;rw[hj,this,hC]at hjr;omega
   have:=pos hD;exact⟨by omega,.inr ⟨e,hD⟩⟩
  .have e:=(hu r).2 fun j hj hjr=>hex ⟨j,hj,hjr⟩;exact⟨by omega,.inl e⟩
 have vle:∀j,j<C->v2 j<=v j/\(v2 j=v j∨v2 j=v j-least/\D≠[]):=fun j hj=>by
  by_cases hjD:j∈a::D
  .have e:=(hv j hj).1 hjD;have hD:D≠[]:=fun hD=>noD hD j hj hjD;have:=pos hD;exact⟨by omega,.inr ⟨e,hD⟩⟩
  .have e:=(hv j hj).2 hjD;exact⟨by omega,.inl e⟩
 have edge:∀(r j d:Nat),d∈a::D->row d=(r:Int)->j<C->j∈a::D->u2 r+v2 j=u r+v j:=fun r j d hd hdr hj hjD=>by
  rw[(hu r).1 d hd hdr,(hv j hj).1 hjD];omega
 have feas2:∀r j,r<=i->(r=i->D≠[]∨j ∉ a::D)->j<C->(r<i∨D≠[]->u r+v j<=c r j)->u2 r+v2 j<=c r j:=fun r j hr hri hj hold=>by
  by_cases hex:∃d∈a::D,row d=(r:Int)
  .obtain ⟨d,hd,hdr⟩:=hex;by_cases hjD:j∈a::D
   .rw [edge r j d hd hdr hj hjD];refine hold ?_;by_cases hr':r<i
    .exact .inl hr'
    .exact .inr ((hri (by omega)).resolve_right fun hh=>hh hjD)
   .rw [(hu r).1 d hd hdr,(hv j hj).2 hjD];have h1:=low1 j hj hjD d hd r hdr;have h2:=n5 j hj hjD;omega
  .have e:=(hu r).2 fun j hj hjr=>hex ⟨j,hj,hjr⟩;have hri':r≠i:=fun he=>hex ⟨C,hCin,by rw[he];exact hC⟩;have:=hold (.inl (by omega));have:=(vle j hj).1;omega
 have tl:(if D=[]then least else t1)<=u2 i:=by
  by_cases hD:D=[]
  .rw [if_pos hD];have h3:=h.t0 hD;have h4:=h.zero i (.inr ⟨hD,rfl⟩);omega
  .rw [if_neg hD];have:=pos hD;have:=h.up;omega
 refine⟨if D=[]then least else t1,?_⟩;have gap:u i-t1<=u2 i-(if D=[]then least else t1)/\(D≠[]->u2 i-(if D=[]then least else t1)=u i-t1+least):=by
  by_cases hD:D=[]
  .rw [if_pos hD];have h3:=h.t0 hD;have h4:=h.zero i (.inr ⟨hD,rfl⟩);exact⟨by omega,fun hh=>absurd hD hh⟩
  .rw [if_neg hD];have:=pos hD;exact⟨by omega,fun _=>by omega⟩
 refine⟨?_,leD,fun hh=>(by cases hh),fun _=>⟨hCin,n2⟩,rwD,?_,?_,?_,?_,?_,?_,fun hh=>(by cases hh),?_,?_,?_,?_,fun hh=>(by cases hh),?_,tl,?_,?_⟩
 .exact zK.2 ⟨n3,h.nodup⟩
 .exact fun r j hr hj=>feas2 r j (by omega) (fun he=>by omega) hj fun _=>h.feas r j hr hj
 .intro _ j hj;by_cases hD:D=[]
  .exact feas2 i j (zE _) (fun _=>.inr (noD hD j hj)) hj fun hh=>by
    rcases hh with hh|hh
    .omega
    .exact absurd hD hh
  .exact feas2 i j (zE _) (fun _=>.inl hD) hj fun _=>h.feasI hD j hj
 .intro r j hj hjr;have ht:=h.tight r j hj hjr;by_cases hjD:j∈a::D
  .rw [edge r j j hjD hjr hj hjD];exact ht
  .have e1:=(hu r).2 fun d hd hdr=>hjD (by rw[Amm hA hC (by omega) (leD d hd) hjr hdr];exact hd);rw[e1,(hv j hj).2 hjD];exact ht
 .exact fun j hj=>zX (vle j hj).1 (h.neg j hj)
 .intro j hj hjr;have hjD:j ∉ a::D:=fun hh=>by have:=rwD j hh;omega
  rw[(hv j hj).2 hjD];exact h.free j hj hjr
 .rintro r (hr|⟨hh,_⟩)
  .have e:=(hu r).2 fun d hd hdr=>by
    obtain⟨r',e',hle,_⟩:=Aeb hA hC (leD d hd) (rwD d hd);omega
   rw[e];exact h.zero r (.inl hr)
  .cases hh
 .intro j hj hjD d hd r hdr;have h1:=low1 j hj hjD d hd r hdr;rw[b2 j hj hjD,(hu r).1 d hd hdr,(hv j hj).2 hjD];omega
 .intro _ j hj hjD;obtain⟨g1,g2⟩:=att1 j hj hjD;refine⟨g1,fun r hr=>?_⟩;rw[b2 j hj hjD,(hu r).1 _ g1 hr,(hv j hj).2 hjD,g2 r hr];omega
 .intro A j S hAS hjC;have hjD:j∈a::D:=by rw[hAS];simp
  have hjl:j<C:=by have:=leD j hjD;omega
  rw[f1 j hjD];cases A with
  |nil=>
   simp only[yJ,zM]at hAS;obtain⟨rfl,rfl⟩:=hAS;have hD:D≠[]:=fun hD=>hjC (h.first hD);obtain⟨g1,g2⟩:=h.att hD a hjl haD;refine⟨g1,fun r hr=>?_⟩;rw[edge r a (frm a) (zD _ g1) hr hjl (by simp)];have:=g2 r hr;have:=h.here hD;omega
  |cons b A=>
   simp only[yE,zM]at hAS;obtain⟨g1,g2⟩:=h.tree A j S hAS.2 hjC;refine⟨g1,fun r hr=>?_⟩;rw[edge r j (frm j) (by rw[hAS.2];simp[g1]) hr hjl hjD];exact g2 r hr
 .intro _;rw[b2 nx n2 n3,n4];omega
 .left;by_cases hD:D=[]
  .rw [if_pos hD];obtain⟨e1,_⟩:=b1 nx n2 n3;rw[if_pos (fin1 nx n2 hD)]at e1;have e0:r0=i:=by
    have:=h.first hD
    rw[this,hC]at hr0;omega
   rw[n4,e1,e0,h.zero i (.inr ⟨hD,rfl⟩)];have h1:=(hM.bnd i nx hi n2).1;have h2:=h.neg nx n2;omega
  .rw [if_neg hD];exact h.t1E.resolve_right hD
 .intro r hr;obtain⟨g1,g2⟩:=uge r hr;have:=h.bu r hr;rcases g2 with g2|⟨g2,hD⟩
  .have:=gap.1;omega
  .have:=gap.2 hD;omega
 .intro j hj;obtain⟨g1,g2⟩:=vle j hj;have:=h.bv j hj;rcases g2 with g2|⟨g2,hD⟩
  .have:=gap.1;omega
  .have:=gap.2 hD;omega
end
section
variable{c:Nat->Nat->Int}{R C i:Nat}{E B:Int}{u0 v0 row:Nat->Int}
theorem SrcA.bound(hM:MtxA c R C E)(hA:AsgA c C i B u0 v0 row)(hi:i<R){D:List Nat}{a:Nat}{u v best:Nat->Int}{frm:Nat->Nat}{t1:Int}(h:SrcA c C i E u0 v0 row D a u v best frm t1)(hD:D≠[]) : -E<=t1/\t1<=u i/\u i<=E/\u i-t1<=E+E:=by
 obtain⟨j,hj,hjr⟩:=hA.hole (by have:=hM.le;omega);have h1:=h.feasI hD j hj;have h2:=h.free j hj hjr;have h3:=(hM.bnd i j hi hj).2;have h4:=h.t1E.resolve_right hD;have h5:=h.up;omega
theorem SrcA.path{D:List Nat}{a:Nat}{u v best:Nat->Int}{frm:Nat->Nat}{t1:Int}(h:SrcA c C i E u0 v0 row D a u v best frm t1)(hD:D≠[]):∀A j S,a::D=A++j::S->j≠C->frm j∈S/\∀r:Nat,row (frm j)=(r:Int)->u r+v j=c r j:=by
 intro A j S hAS hjC;cases A with
 |nil=>
  simp only[yJ,zM]at hAS;obtain⟨rfl,rfl⟩:=hAS;have haD:a ∉ D:=(zK.1 h.nodup).1;obtain⟨g1,g2⟩:=h.att hD a (h.later hD).2 haD;refine⟨g1,fun r hr=>?_⟩;have:=g2 r hr;have:=h.here hD;omega
 |cons b A=>
  simp only[yE,zM]at hAS;exact h.tree A j S hAS.2 hjC
structure PathA(c:Nat->Nat->Int)(C i:Nat)(row:Nat->Int)(T:List Nat)(u v:Nat->Int)(frm:Nat->Nat)(p:Nat)(ro:Nat->Int):Prop where
 le:p<=C
 rng:∀j,j<=C->j≠p->ro j = -1∨0<=ro j/\ro j<=i
 inj:∀j k,j<=C->k<=C->j≠p->k≠p->0<=ro j->ro j=ro k->j=k
 sur:∀r:Nat,r<=i->∃j,j<=C/\j≠p/\ro j=(r:Int)
 tight:∀(r j:Nat),j<C->j≠p->ro j=(r:Int)->u r+v j=c r j
 free:∀j,j<C->j≠p->ro j = -1->v j=0
 rest:∃A S,T=A++p::S/\∀j∈S,ro j=row j
theorem PathA.start(hA:AsgA c C i B u0 v0 row)(hC:row C=(i:Int)){D:List Nat}{a:Nat}{u v best:Nat->Int}{frm:Nat->Nat}{t1:Int}(h:SrcA c C i E u0 v0 row D a u v best frm t1)(hD:D≠[])(ha:row a<0):PathA c C i row (a::D) u v frm a row where
 le:=Nat.le_of_lt (h.later hD).2
 rng:=fun j hj _=>by
  by_cases hjC:j=C
  .rw [hjC,hC];right;omega
  .rcases hA.rng j (by omega)with k|k
   .exact .inl k
   .right;omega
 inj:=fun j k hj hk _ _ h0 e=>by
  obtain⟨r,e1,_⟩:=Aeb hA hC hj h0;exact Amm hA hC hj hk e1 (e ▸ e1)
 sur:=fun r hr=>by
  by_cases hri:r=i
  .refine ⟨C,zE _,fun e=>?_,by rw[hri];exact hC⟩;rw[<-e,hC]at ha;omega
  .obtain ⟨j,hj,e⟩:=hA.sur r (by omega);exact⟨j,by omega,fun hh=>by rw[<-hh,e]at ha;omega,e⟩
 tight:=fun r j hj _ e=>h.tight r j hj e
 free:=fun j hj _ e=>h.free j hj e
 rest:=⟨[],D,rfl,fun _ _=>rfl⟩
theorem PathA.next{T:List Nat}{u v:Nat->Int}{frm:Nat->Nat}(hT:T.Nodup)(hle:∀j∈T,j<=C)(h0:∀A j S,T=A++j::S->∀k∈S,0<=row k)(hp:∀A j S,T=A++j::S->j≠C->frm j∈S/\∀r:Nat,row (frm j)=(r:Int)->u r+v j=c r j)
  {p:Nat} {ro rw2:Nat->Int} (h:PathA c C i row T u v frm p ro) (hpC:p≠C) (e1:rw2 p=ro (frm p)) (e2:∀j,j<=C->j≠p->rw2 j=ro j):PathA c C i row T u v frm (frm p) rw2:=by
 obtain⟨A,S,hAS,hS⟩:=h.rest;obtain⟨g1,g2⟩:=hp A p S hAS hpC;have hqT:frm p∈T:=by rw[hAS];simp[g1]
 have hnd:=hAS ▸ hT;have hpS:p ∉ S:=by
  have:=(zO.1 hnd).2.1;exact(zK.1 this).1
 have hqp:frm p≠p:=fun e=>hpS (e ▸ g1);have hqC:=hle _ hqT;have hrq:ro (frm p)=row (frm p):=hS _ g1;have hr0:0<=row (frm p):=h0 A p S hAS _ g1;have hrr:=h.rng (frm p) hqC hqp;refine⟨hqC,?_,?_,?_,?_,?_,?_⟩
 .intro j hj hjq;by_cases hjp:j=p
  .rw [hjp,e1];exact hrr
  .rw [e2 j hj hjp];exact h.rng j hj hjp
 .intro j k hj hk hjq hkq hj0 e;by_cases hjp:j=p
  .by_cases hkp:k=p
   .rw [hjp,hkp]
   .rw [hjp,e1,e2 k hk hkp]at e;exact absurd (h.inj (frm p) k hqC hk hqp hkp (by omega) e).symm hkq
  .rw [e2 j hj hjp]at e hj0;by_cases hkp:k=p
   .rw [hkp,e1]at e;exact absurd (h.inj j (frm p) hj hqC hjp hqp hj0 e) hjq
   .rw [e2 k hk hkp]at e;exact h.inj j k hj hk hjp hkp hj0 e
 .intro r hr;obtain⟨j,hj,hjp,e⟩:=h.sur r hr;by_cases hjq:j=frm p
  .exact ⟨p,h.le,fun hh=>hqp hh.symm,by rw[e1,<-hjq];exact e⟩
  .exact ⟨j,hj,hjq,by rw[e2 j hj hjp];exact e⟩
 .intro r j hj hjq e;by_cases hjp:j=p
  .rw [hjp,e1,hrq]at e;rw[hjp];exact g2 r e
  .rw [e2 j (by omega) hjp]at e;exact h.tight r j hj hjp e
 .intro j hj hjq e;by_cases hjp:j=p
  .rw [hjp,e1]at e;omega
  .rw [e2 j (by omega) hjp]at e;exact h.free j hj hjp e
 .obtain ⟨A2,S2,e⟩:=List.append_of_mem g1;refine⟨A++p::A2,S2,by rw[hAS,e];simp,fun j hj=>?_⟩;have hjS:j∈S:=by rw[e];simp[hj]
  have hjp:j≠p:=fun hh=>hpS (hh ▸ hjS);have hjT:j∈T:=by rw[hAS];simp[hjS]
  rw[e2 j (hle j hjT) hjp];exact hS j hjS
theorem PathA.left{T:List Nat}{u v:Nat->Int}{frm:Nat->Nat}{p:Nat}{ro:Nat->Int}(h:PathA c C i row T u v frm p ro)(hT:T.Nodup):T.idxOf p<T.length:=by
 obtain⟨A,S,e,_⟩:=h.rest;rw[List.idxOf_lt_length_iff,e];simp
theorem Bd4{T A S:List Nat}{p q:Nat}(hT:T.Nodup)(e:T=A++p::S)(hq:q∈S):T.idxOf p<T.idxOf q:=by
 subst e;have hnd:=zO.1 hT;have hp:p ∉ A:=fun hh=>hnd.2.2 p hh p (by simp) rfl;have hqA:q ∉ A:=fun hh=>hnd.2.2 q hh q (by simp[hq]) rfl;have hqp:p≠q:=fun hh=>(zK.1 hnd.2.1).1 (hh ▸ hq);rw[yA,if_neg hp,yA,if_neg hqA,List.idxOf_cons_self,List.idxOf_cons];have:(p==q)=false:=by simpa using hqp
 rw[this];simp
theorem PathA.done(hM:MtxA c R C E)(hA:AsgA c C i B u0 v0 row)(hi:i<R)(hB:0<=B){D:List Nat}{a:Nat}{u v best:Nat->Int}{frm frm2:Nat->Nat}{t1:Int}(h:SrcA c C i E u0 v0 row D a u v best frm t1)(hD:D≠[]){T:List Nat}{ro rw2:Nat->Int}
  (hp:PathA c C i row T u v frm2 C ro) (e2:∀j,j<C->rw2 j=ro j):AsgA c C (i+1) (B+(E+E)) u v rw2:=by
 obtain⟨b1,b2,b3,b4⟩:=h.bound hM hA hi hD;refine⟨?_,?_,?_,?_,?_,h.neg,?_,?_,?_,?_⟩
 .intro j hj;rw[e2 j hj];rcases hp.rng j (by omega) (by omega)with k|k
  .exact .inl k
  .right;omega
 .intro j k hj hk h0 e;rw[e2 j hj]at h0 e;rw[e2 k hk]at e;exact hp.inj j k (by omega) (by omega) (by omega) (by omega) h0 e
 .intro r hr;obtain⟨j,hj,hjC,e⟩:=hp.sur r (by omega);exact⟨j,by omega,by rw[e2 j (by omega)];exact e⟩
 .intro r j hr hj;by_cases hri:r=i
  .rw [hri];exact h.feasI hD j hj
  .exact h.feas r j (by omega) hj
 .intro r j hj e;rw[e2 j hj]at e;exact hp.tight r j hj (by omega) e
 .intro j hj e;rw[e2 j hj]at e;exact hp.free j hj (by omega) e
 .exact fun r hr=>h.zero r (.inl (by omega))
 .intro r hr;by_cases hri:r=i
  .rw [hri];constructor<;>omega
  .have h1:=h.bu r (by omega);have h2:=hA.bu r (by omega);constructor<;>omega
 .intro j hj;have h1:=(h.bv j hj).1;have h2:=hA.bv j hj;omega
def sumA(f:Nat->Int)(n:Nat):Int:=((zL n).map f).sum
theorem Abg{f:Nat->Int}{n:Nat}:sumA f (n+1)=sumA f n+f n:=by
 unfold sumA;rw[List.range_succ,yF,yG];simp
theorem Bae{f g:Nat->Int}:∀{n:Nat},(∀k,k<n->f k<=g k)->sumA f n<=sumA g n
 |0,_=>zI _
 |n+1,h=>by
  rw[Abg,Abg];have:=Bae (n:=n) fun k hk=>h k (by omega);have:=h n (by omega);omega
theorem Amp{f g:Nat->Int}:∀{n:Nat},sumA (fun k=>f k+g k) n=sumA f n+sumA g n
 |0=>rfl
 |n+1=>by rw[Abg,Abg,Abg,Amp];omega
theorem Adg{f g:Nat->Int}:∀{n:Nat},(∀k,k<n->f k=g k)->sumA f n=sumA g n
 |0,_=>rfl
 |n+1,h=>by rw[Abg,Abg,Adg fun k hk=>h k (by omega),h n (by omega)]
theorem Avm{l m:List Int}(h:l.Perm m):l.sum=m.sum:=by
 induction h with
 |nil=>rfl
 |cons x _ ih=>simp only[zB,ih]
 |swap x y l=>simp only[zB];omega
 |trans _ _ h1 h2=>exact h1.trans h2
theorem Bga{f:Nat->Int}{C:Nat}(hf:∀j,j<C->f j<=0):∀{l:List Nat},l.Nodup->(∀j∈l,j<C)->sumA f C<=(l.map f).sum:=by
 induction C with
 |zero=>
  intro l _ hl;cases l with
  |nil=>exact zI _
  |cons x l=>exact absurd (hl x (by simp)) (by omega)
 |succ C ih=>
  intro l hn hl;rw[Abg];by_cases hC:C∈l
  .have hp:=zV hC;have e:(l.map f).sum=f C+((l.erase C).map f).sum:=by
    have:=Avm (hp.map f);rw[this];simp
   have:=ih (fun j hj=>hf j (by omega)) (l:=l.erase C) (hn.erase C) fun j hj=>by
    have h1:=hl j (zT hj);have h2:j≠C:=fun hh=>by rw[hh,hn.mem_erase_iff]at hj;exact hj.1 rfl
    omega
   omega
  .have:=ih (fun j hj=>hf j (by omega)) hn fun j hj=>by
    have h1:=hl j hj;have h2:j≠C:=fun hh=>hC (hh ▸ hj);omega
   have:=hf C (by omega);omega
theorem Bbt{f:Nat->Int}{C:Nat}:∀{l:List Nat},l.Nodup->(∀j∈l,j<C)->(∀j,j<C->j ∉ l->f j=0)->sumA f C=(l.map f).sum:=by
 induction C with
 |zero=>
  intro l _ hl _;cases l with
  |nil=>rfl
  |cons x l=>exact absurd (hl x (by simp)) (by omega)
 |succ C ih=>
  intro l hn hl hf;rw[Abg];by_cases hC:C∈l
  .have hp:=zV hC;have e:(l.map f).sum=f C+((l.erase C).map f).sum:=by
    have:=Avm (hp.map f);rw[this];simp
   have:=ih (l:=l.erase C) (hn.erase C) (fun j hj=>by
    have h1:=hl j (zT hj);have h2:j≠C:=fun hh=>by rw[hh,hn.mem_erase_iff]at hj;exact hj.1 rfl
    omega) fun j hj hjl=>hf j (by omega) fun hh=>hjl ((hn.mem_erase_iff).2 ⟨by omega,hh⟩)
   omega
  .have:=ih hn (fun j hj=>by
    have h1:=hl j hj;have h2:j≠C:=fun hh=>hC (hh ▸ hj)
    omega) fun j hj hjl=>hf j (by omega) hjl
   have:=hf C (by omega) hC;omega
theorem AsgA.least{u v:Nat->Int}(h:AsgA c C R B u v row){col:Nat->Nat}(hcol:∀r,r<R->col r<C/\row (col r)=(r:Int)){o:Nat->Nat}(ho:∀r,r<R->o r<C)(hinj:∀r s,r<R->s<R->o r=o s->r=s):sumA (fun r=>c r (col r)) R<=sumA (fun r=>c r (o r)) R:=by
 have nd:∀{f:Nat->Nat},(∀r s,r<R->s<R->f r=f s->r=s)->((zL R).map f).Nodup:=fun {f} hf=>by
  rw[zC,zZ];refine(zC.1 yD).imp_of_mem fun {a b} ha hb hab he=>hab (hf a b (zA.1 ha) (zA.1 hb) he)
 have e1:sumA (fun r=>c r (col r)) R=sumA u R+sumA (fun r=>v (col r)) R:=by
  rw[<-Amp];exact Adg fun r hr=>(h.tight r (col r) (hcol r hr).1 (hcol r hr).2).symm
 have e2:sumA (fun r=>v (col r)) R=sumA v C:=by
  rw[Bbt (f:=v) (C:=C) (l:=(zL R).map col) (nd fun r s hr hs e=>?_) (fun j hj=>?_) fun j hj hjl=>?_]
  .unfold sumA;rw[List.map_map];rfl
  .have h1:=(hcol r hr).2;have h2:=(hcol s hs).2;rw[e]at h1;omega
  .obtain ⟨r,hr,rfl⟩:=zQ.1 hj;exact(hcol r (zA.1 hr)).1
  .rcases h.rng j hj with e|⟨k1,k2⟩
   .exact h.free j hj e
   .exfalso;refine hjl (zQ.2 ⟨(row j).toNat,zA.2 (by omega),?_⟩);have h1:=hcol (row j).toNat (by omega);exact(h.inj j _ hj h1.1 k1 (by omega)).symm
 have e3:sumA u R+sumA (fun r=>v (o r)) R<=sumA (fun r=>c r (o r)) R:=by
  rw[<-Amp];exact Bae fun r hr=>h.feas r (o r) hr (ho r hr)
 have e4:sumA v C<=sumA (fun r=>v (o r)) R:=by
  have:=Bga (l:=(zL R).map o) h.neg (nd hinj) fun j hj=>by
   obtain⟨r,hr,rfl⟩:=zQ.1 hj;exact ho r (zA.1 hr)
  rw[List.map_map]at this;exact this
 omega
end
section
theorem Avk{n:Nat}:sumA (fun _=>0) n=0:=by
 induction n with
 |zero=>rfl
 |succ n ih=>rw[Abg,ih];rfl
theorem Aqz{f:Nat->Int}:∀{n:Nat},sumA (fun k=>-f k) n = -sumA f n
 |0=>rfl
 |n+1=>by rw[Abg,Abg,Aqz];omega
theorem Avl{f:Nat->Nat->Int}{m:Nat}:∀{n:Nat},sumA (fun r=>sumA (fun i=>f r i) m) n=sumA (fun i=>sumA (fun r=>f r i) n) m
 |0=>by
  have:(fun i=>sumA (fun r=>f r i) 0)=fun _=>0:=rfl;rw[this,Avk];rfl
 |n+1=>by
  rw[Abg,Avl,<-Amp];exact Adg fun i _=>Abg.symm
theorem Atz{x:Nat}{v:Int}:∀{n:Nat},sumA (fun r=>if r=x then v else 0) n=if x<n then v else 0
 |0=>rfl
 |n+1=>by
  rw[Abg,Atz];by_cases h:x<n
  .rw [if_pos h,if_neg (by omega),if_pos (by omega)];omega
  .by_cases e:n=x
   .rw [if_neg h,if_pos e,if_pos (by omega)];omega
   .rw [if_neg h,if_neg e,if_neg (by omega)];rfl
variable{m R n:Nat}{x y:Nat->Nat}{w:Nat->Int}
def Afb(m:Nat)(x y:Nat->Nat)(w:Nat->Int)(r j:Nat):Int:=sumA (fun i=>if x i=r/\y i=j then w i else 0) m
theorem Bff(h:∀i k,i<m->k<m->x i=x k->y i=y k->i=k){i:Nat}(hi:i<m):Afb m x y w (x i) (y i)=w i:=by
 unfold Afb;rw[Adg (g:=fun k=>if k=i then w i else 0) fun k hk=>?_,Atz,if_pos hi];by_cases e:k=i
 .subst e;rw[if_pos ⟨rfl,rfl⟩,if_pos rfl]
 .rw [if_neg e,if_neg fun hh=>e (h k i hk hi hh.1 hh.2)]
theorem Ant{r j:Nat}(h:∀i,i<m->¬(x i=r/\y i=j)):Afb m x y w r j=0:=by
 unfold Afb;rw[Adg (g:=fun _=>0) fun k hk=>if_neg (h k hk),Avk]
theorem Axb(hx:∀i,i<m->x i<R){t:Nat->Nat}:sumA (fun r=>Afb m x y w r (t r)) R=sumA (fun i=>if t (x i)=y i then w i else 0) m:=by
 unfold Afb;rw[Avl];refine Adg fun i hi=>?_;rw[Adg (g:=fun r=>if r=x i then(if t (x i)=y i then w i else 0)else 0) fun r _=>?_,Atz,if_pos (hx i hi)];by_cases e:r=x i
 .subst e;rw[if_pos rfl];by_cases e2:t (x i)=y i
  .rw [if_pos e2,if_pos ⟨rfl,e2.symm⟩]
  .rw [if_neg e2,if_neg fun hh=>e2 hh.2.symm]
 .rw [if_neg e,if_neg fun hh=>e hh.1.symm]
open Classical in
noncomputable def Aow(m n:Nat)(x y:Nat->Nat)(N:Nat->Bool)(r:Nat):Nat:=if h:∃i,i<m/\N i=true/\x i=r then y h.choose else n+r
theorem Ahs{N:Nat->Bool}(hN:∀i k,i<m->k<m->N i=true->N k=true->x i=x k∨y i=y k->i=k){i:Nat}(hi:i<m)(hNi:N i=true):Aow m n x y N (x i)=y i:=by
 unfold Aow;have h:∃k,k<m/\N k=true/\x k=x i:=⟨i,hi,hNi,rfl⟩
 rw[dif_pos h];have hc:=h.choose_spec;rw[hN _ i hc.1 hi hc.2.1 hNi (.inl hc.2.2)]
theorem Ajo{N:Nat->Bool}{r:Nat}(h:¬ ∃i,i<m/\N i=true/\x i=r):Aow m n x y N r=n+r:=by
 unfold Aow;rw[dif_neg h]
theorem Bbe(hx:∀i,i<m->x i<R)(hy:∀i,i<m->y i<n)(hd:∀i k,i<m->k<m->x i=x k->y i=y k->i=k)
  {u v row:Nat->Int} {B:Int} (h:AsgA (fun r j=>-Afb m x y w r j) (n+R) R B u v row) {col:Nat->Nat} (hcol:∀r,r<R->col r<n+R/\row (col r)=(r:Int)):
  (∀i k,i<m->k<m->decide (col (x i)=y i)=true->decide (col (x k)=y k)=true->x i=x k∨y i=y k->i=k) /\
  ∀N:Nat->Bool,(∀i k,i<m->k<m->N i=true->N k=true->x i=x k∨y i=y k->i=k)->sumA (fun i=>if N i=true then w i else 0) m<=sumA (fun i=>if decide (col (x i)=y i)=true then w i else 0) m:=by
 constructor
 .intro i k hi hk h1 h2 hor;have h1:=of_decide_eq_true h1;have h2:=of_decide_eq_true h2;rcases hor with e|e
  .rw [e]at h1;exact hd i k hi hk e (by omega)
  .have g1:=(hcol _ (hx i hi)).2;have g2:=(hcol _ (hx k hk)).2;rw[h1,e]at g1;rw[h2]at g2;exact hd i k hi hk (by omega) e
 .intro N hN;have hl:=h.least hcol (o:=Aow m n x y N) (fun r hr=>by
   by_cases hex:∃i,i<m/\N i=true/\x i=r
   .obtain ⟨i,hi,hNi,rfl⟩:=hex;rw[Ahs hN hi hNi];have:=hy i hi;omega
   .rw [Ajo hex];omega) fun r s hr hs e=>by
   by_cases h1:∃i,i<m/\N i=true/\x i=r
   .obtain ⟨i,hi,hNi,rfl⟩:=h1;rw[Ahs hN hi hNi]at e;have:=hy i hi;by_cases h2:∃k,k<m/\N k=true/\x k=s
    .obtain ⟨k,hk,hNk,rfl⟩:=h2;rw[Ahs hN hk hNk]at e;rw[hN i k hi hk hNi hNk (.inr e)]
    .rw [Ajo h2]at e;omega
   .rw [Ajo h1]at e;by_cases h2:∃k,k<m/\N k=true/\x k=s
    .obtain ⟨k,hk,hNk,rfl⟩:=h2;rw[Ahs hN hk hNk]at e;have:=hy k hk;omega
    .rw [Ajo h2]at e;omega
  rw[Aqz,Aqz,Axb hx,Axb hx]at hl;have e1:sumA (fun i=>if Aow m n x y N (x i)=y i then w i else 0) m=sumA (fun i=>if N i=true then w i else 0) m:=Adg fun i hi=>by
   by_cases hNi:N i=true
   .rw [if_pos hNi,if_pos (Ahs hN hi hNi)]
   .rw [if_neg hNi,if_neg fun e=>?_];by_cases h1:∃k,k<m/\N k=true/\x k=x i
    .obtain ⟨k,hk,hNk,ex⟩:=h1;rw[<-ex,Ahs hN hk hNk]at e;exact hNi (hd k i hk hi ex e ▸ hNk)
    .rw [Ajo h1]at e;have:=hy i hi;omega
  have e2:sumA (fun i=>if decide (col (x i)=y i)=true then w i else 0) m=sumA (fun i=>if col (x i)=y i then w i else 0) m:=Adg fun i _=>by simp only[decide_eq_true_iff]
  rw[e1]at hl;rw[e2];omega
end
end Go.Own
