/- What the functions answer. No conditions. -/
import Derived.Test.YtcbhcnkfefbddaaGreatDoorBase2
set_option linter.all false
open List renaming mem_map->aA,mem_cons->aM,nodup_iff_pairwise_ne->aQ,nodup_cons->a6,nodup_nil->ba,mem_singleton->bo,flatMap_cons->bB,nodup_append->bL,pairwise_map->b3,length_cons->b5,length_map->cc
open Prod.mk renaming inj->cu
namespace Go.aS
variable{O fc Cl:Type}
def Zn{l m:List O}(hl:l.Nodup)(ae:∀x∈l,x∈m)(he:l.length=m.length):∀x∈m,x∈l:=by
 intro x U
 false_or_by_contra
 rename_i h;have:(x::l).length<=m.length:=(a6.2 ⟨h,hl⟩).length_le_of_subset (by
  intro y aw;rcases aM.1 aw with rfl|aw
  .exact U
  .exact ae y aw)
 simp only[b5]at this;omega
def uh(A:List O)(B:List fc):List (O×fc):=A.flatMap λa=>B.map λb=>(a,b)
def F5{A:List O}{B:List fc}{p:O×fc}:p∈uh A B↔p.1∈A/\p.2∈B:=by
 unfold uh;rw[List.mem_flatMap];constructor
 .rintro ⟨a,aC,h⟩;obtain⟨b,ag,rfl⟩:=aA.1 h;exact⟨aC,ag⟩
 .rintro ⟨I,aa⟩;exact⟨p.1,I,aA.2 ⟨p.2,aa,rfl⟩⟩
def Kh{B:List fc}:∀{A:List O},(uh A B).length=A.length*B.length
 |[]=>by simp[uh]
 |a::A=>by
  have:=Kh (A:=A) (B:=B);unfold uh at this⊢;rw[bB,List.length_append,cc,this,b5,Nat.succ_mul,Nat.add_comm]
def QA{B:List fc}(cg:B.Nodup):∀{A:List O},A.Nodup->(uh A B).Nodup
 |[],_=>by simp[uh]
 |a::A,c2=>by
  rw[a6]at c2;have aN:=QA cg c2.2;unfold uh at aN⊢;rw[bB,bL];refine⟨?_,aN,?_⟩
  .rw [aQ]at cg⊢;rw[b3];exact cg.imp λh he=>h (by cases he;rfl)
  .intro x U y aw;obtain⟨b,_,rfl⟩:=aA.1 U;rintro rfl;have:=(F5 (A:=A) (B:=B) (p:=(a,b))).1 aw;exact c2.1 this.1
def abg{L:List Cl}{f:Cl->O}{g:Cl->fc}{A:List O}{B:List fc}{C:List (O×fc)}(c2:A.Nodup)(Nj:∀a,a∈A↔∃x∈L,f x=a)(cg:B.Nodup)(Nk:∀b,b∈B↔∃x∈L,g x=b)(cP:C.Nodup)(Nl:∀p,p∈C↔∃x∈L,(f x,g x)=p):
  A.length*B.length=C.length↔∀x∈L,∀y∈L,∃z∈L,f z=f x/\g z=g y:=by
 have ia:∀p∈C,p∈uh A B:=λp af=>by
  obtain⟨x,U,rfl⟩:=(Nl p).1 af;exact F5.2 ⟨(Nj _).2 ⟨x,U,rfl⟩,(Nk _).2 ⟨x,U,rfl⟩⟩
 constructor
 .intro he x U y aw;have:=Zn cP ia (by rw[Kh,he]) (f x,g y) (F5.2 ⟨(Nj _).2 ⟨x,U,rfl⟩,(Nk _).2 ⟨y,aw,rfl⟩⟩);obtain⟨z,aG,h⟩:=(Nl _).1 this;exact⟨z,aG,(cu h).1,(cu h).2⟩
 .intro h;rw[<-Kh];refine Nat.le_antisymm ?_ ?_
  .refine (QA cg c2).length_le_of_subset λp af=>?_;obtain⟨I,aa⟩:=F5.1 af;obtain⟨x,U,aT⟩:=(Nj _).1 I;obtain⟨y,aw,a5⟩:=(Nk _).1 aa;obtain⟨z,aG,ez,eK⟩:=h x U y aw;exact(Nl p).2 ⟨z,aG,by rw[ez,eK,aT,a5]⟩
  .exact cP.length_le_of_subset λp af=>ia p af
end Go.aS
namespace Go.aS
set_option maxRecDepth 1000000
end Go.aS
namespace Go.aS
def acL{k x:ByteArray}{ks:List ByteArray}:x∈gw k ks↔x=k∨x∈ks:=by
 unfold gw
 split
 .rename_i h;constructor
  .exact .inr
  .rintro (rfl|da)
   .exact Ji.1 h
   .exact da
 .rw [List.mem_append,bo];exact or_comm
def aao{k:ByteArray}{ks:List ByteArray}(h:ks.Nodup):(gw k ks).Nodup:=by
 unfold gw
 split
 .exact h
 .rename_i ao;rw[bL];exact⟨h,by simp,λx U y aw=>by simp only[bo]at aw;subst aw;rintro rfl;exact ao (Ji.2 U)⟩
def LF:∀{l acc:List ByteArray},acc.Nodup->(l.foldl (λacc k=>gw k acc) acc).Nodup/\∀x,x∈l.foldl (λacc k=>gw k acc) acc↔x∈acc∨x∈l
 |[],acc,h=>⟨h,λx=>by simp⟩
 |a::l,acc,h=>by
  obtain⟨I,aa⟩:=LF (l:=l) (aao (k:=a) h);refine⟨I,λx=>?_⟩;simp only[List.foldl_cons];rw[aa x,acL,aM];constructor
  .rintro ((h|h)|h)
   .exact .inr (.inl h)
   .exact .inl h
   .exact .inr (.inr h)
  .rintro (h|h|h)
   .exact .inl (.inr h)
   .exact .inl (.inl h)
   .exact .inr h
def K6{l:List ByteArray}:(hj l).Nodup:=(LF ba).1
def L4{l:List ByteArray}{x:ByteArray}:x∈hj l↔x∈l:=by
 have:=(LF (l:=l) ba).2 x;unfold hj;rw[this];simp
def UE{O:Type}:∀(l:List O),∃m:List O,m.Nodup/\∀x,x∈m↔x∈l
 |[]=>⟨[],ba,λ_=>Iff.rfl⟩
 |a::l=>by
  obtain⟨m,I,aa⟩:=UE l;by_cases h:a∈m
  .refine ⟨m,I,λx=>?_⟩;rw[aa x,aM];constructor
   .exact .inr
   .rintro (rfl|U)
    .exact (aa _).1 h
    .exact U
  .refine ⟨a::m,a6.2 ⟨h,I⟩,λx=>?_⟩;rw[aM,aM,aa x]
def aa6{Cl:Type}{L:List Cl}{f g:Cl->ByteArray}(ai4:∀x∈L,∀y∈L,f x++g x=f y++g y->f x=f y/\g x=g y):
  (hj (L.map f)).length*(hj (L.map g)).length=(hj (L.map λx=>f x++g x)).length↔∀x∈L,∀y∈L,∃z∈L,f z=f x/\g z=g y:=by
 obtain⟨C,cF,ck⟩:=UE (L.map λx=>(f x,g x));have cP:C.length=(hj (L.map λx=>f x++g x)).length:=by
  have hm:(C.map λp=>p.1++p.2).Nodup:=by
   rw[aQ]at cF⊢;rw[b3];refine cF.imp_of_mem λ{p q} af au cI he=>?_;obtain⟨x,U,rfl⟩:=aA.1 ((ck p).1 af);obtain⟨y,aw,rfl⟩:=aA.1 ((ck q).1 au);obtain⟨I,aa⟩:=ai4 x U y aw he;exact cI (by rw[I,aa])
  have e:∀s,s∈(C.map λp=>p.1++p.2)↔s∈hj (L.map λx=>f x++g x):=λs=>by
   rw[L4,aA,aA];constructor
   .rintro ⟨p,af,rfl⟩;obtain⟨x,U,rfl⟩:=aA.1 ((ck p).1 af);exact⟨x,U,rfl⟩
   .rintro ⟨x,U,rfl⟩;exact⟨(f x,g x),(ck _).2 (aA.2 ⟨x,U,rfl⟩),rfl⟩
  have l1:=hm.length_le_of_subset λs ae=>(e s).1 ae;have l2:=(K6 (l:=L.map λx=>f x++g x)).length_le_of_subset λs ae=>(e s).2 ae;rw[cc]at l1 l2;omega
 rw[<-cP];exact abg K6 (λa=>by rw[L4,aA]) K6 (λb=>by rw[L4,aA]) cF (λp=>by rw[ck,aA])
end Go.aS
