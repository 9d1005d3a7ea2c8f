/- What the functions answer. No conditions. -/
import Derived.Test.YtmiedlcblpiemaaGreatDoorOwn24
set_option linter.all false
open List renaming mem_map->zA,mem_cons->zB,nodup_iff_pairwise_ne->zC,nodup_cons->zD,nodup_nil->zE,mem_singleton->zF,flatMap_cons->zG,nodup_append->zH,pairwise_map->zI,length_cons->zK,length_map->zL
open Prod.mk renaming inj->zM
namespace Go.Own
variable{O U γ:Type}
def Bbq{l m:List O}(hl:l.Nodup)(hs:∀x∈l,x∈m)(he:l.length=m.length):∀x∈m,x∈l:=by
 intro x hx
 false_or_by_contra
 rename_i h;have:(x::l).length<=m.length:=(zD.2 ⟨h,hl⟩).length_le_of_subset (by
  intro y hy;rcases zB.1 hy with rfl|hy
  .exact hx
  .exact hs y hy)
 simp only[zK]at this;omega
def Ai2(A:List O)(B:List U):List (O×U):=A.flatMap fun a=>B.map fun b=>(a,b)
def Ak6{A:List O}{B:List U}{p:O×U}:p∈Ai2 A B↔p.1∈A/\p.2∈B:=by
 unfold Ai2;rw[List.mem_flatMap];constructor
 .rintro ⟨a,ha,h⟩;obtain⟨b,hb,rfl⟩:=zA.1 h;exact⟨ha,hb⟩
 .rintro ⟨h1,h2⟩;exact⟨p.1,h1,zA.2 ⟨p.2,h2,rfl⟩⟩
def Anw{B:List U}:∀{A:List O},(Ai2 A B).length=A.length*B.length
 |[]=>by simp[Ai2]
 |a::A=>by
  have:=Anw (A:=A) (B:=B);unfold Ai2 at this⊢;rw[zG,List.length_append,zL,this,zK,Nat.succ_mul,Nat.add_comm]
def Apg{B:List U}(hB:B.Nodup):∀{A:List O},A.Nodup->(Ai2 A B).Nodup
 |[],_=>by simp[Ai2]
 |a::A,hA=>by
  rw[zD]at hA;have ih:=Apg hB hA.2;unfold Ai2 at ih⊢;rw[zG,zH];refine⟨?_,ih,?_⟩
  .rw [zC]at hB⊢;rw[zI];exact hB.imp fun h he=>h (by cases he;rfl)
  .intro x hx y hy;obtain⟨b,_,rfl⟩:=zA.1 hx;rintro rfl;have:=(Ak6 (A:=A) (B:=B) (p:=(a,b))).1 hy;exact hA.1 this.1
def Bg9{L:List γ}{f:γ->O}{g:γ->U}{A:List O}{B:List U}{C:List (O×U)}(hA:A.Nodup)(hAm:∀a,a∈A↔∃x∈L,f x=a)(hB:B.Nodup)(hBm:∀b,b∈B↔∃x∈L,g x=b)(hC:C.Nodup)(hCm:∀p,p∈C↔∃x∈L,(f x,g x)=p):
  A.length*B.length=C.length↔∀x∈L,∀y∈L,∃z∈L,f z=f x/\g z=g y:=by
 have hsub:∀p∈C,p∈Ai2 A B:=fun p hp=>by
  obtain⟨x,hx,rfl⟩:=(hCm p).1 hp;exact Ak6.2 ⟨(hAm _).2 ⟨x,hx,rfl⟩,(hBm _).2 ⟨x,hx,rfl⟩⟩
 constructor
 .intro he x hx y hy;have:=Bbq hC hsub (by rw[Anw,he]) (f x,g y) (Ak6.2 ⟨(hAm _).2 ⟨x,hx,rfl⟩,(hBm _).2 ⟨y,hy,rfl⟩⟩);obtain⟨z,hz,h⟩:=(hCm _).1 this;exact⟨z,hz,(zM h).1,(zM h).2⟩
 .intro h;rw[<-Anw];refine Nat.le_antisymm ?_ ?_
  .refine (Apg hB hA).length_le_of_subset fun p hp=>?_;obtain⟨h1,h2⟩:=Ak6.1 hp;obtain⟨x,hx,e1⟩:=(hAm _).1 h1;obtain⟨y,hy,e2⟩:=(hBm _).1 h2;obtain⟨z,hz,e3,e4⟩:=h x hx y hy;exact(hCm p).2 ⟨z,hz,by rw[e3,e4,e1,e2]⟩
  .exact hC.length_le_of_subset fun p hp=>hsub p hp
def Biq{k x:ByteArray}{ks:List ByteArray}:x∈sIns k ks↔x=k∨x∈ks:=by
 unfold sIns
 split
 .rename_i h;constructor
  .exact .inr
  .rintro (rfl|h')
   .exact sAny.1 h
   .exact h'
 .rw [List.mem_append,zF];exact or_comm
def Beg{k:ByteArray}{ks:List ByteArray}(h:ks.Nodup):(sIns k ks).Nodup:=by
 unfold sIns
 split
 .exact h
 .rename_i hn;rw[zH];exact⟨h,by simp,fun x hx y hy=>by simp only[zF]at hy;subst hy;rintro rfl;exact hn (sAny.2 hx)⟩
def Avj:∀{l acc:List ByteArray},acc.Nodup->(l.foldl (fun acc k=>sIns k acc) acc).Nodup/\∀x,x∈l.foldl (fun acc k=>sIns k acc) acc↔x∈acc∨x∈l
 |[],acc,h=>⟨h,fun x=>by simp⟩
 |a::l,acc,h=>by
  obtain⟨h1,h2⟩:=Avj (l:=l) (Beg (k:=a) h);refine⟨h1,fun x=>?_⟩;simp only[List.foldl_cons];rw[h2 x,Biq,zB];constructor
  .rintro ((h|h)|h)
   .exact .inr (.inl h)
   .exact .inl h
   .exact .inr (.inr h)
  .rintro (h|h|h)
   .exact .inl (.inr h)
   .exact .inl (.inl h)
   .exact .inr h
def Ash{l:List ByteArray}:(dd l).Nodup:=(Avj zE).1
def Az9{l:List ByteArray}{x:ByteArray}:x∈dd l↔x∈l:=by
 have:=(Avj (l:=l) zE).2 x;unfold dd;rw[this];simp
def Bj7{O:Type}:∀(l:List O),∃m:List O,m.Nodup/\∀x,x∈m↔x∈l
 |[]=>⟨[],zE,fun _=>Iff.rfl⟩
 |a::l=>by
  obtain⟨m,h1,h2⟩:=Bj7 l;by_cases h:a∈m
  .refine ⟨m,h1,fun x=>?_⟩;rw[h2 x,zB];constructor
   .exact .inr
   .rintro (rfl|hx)
    .exact (h2 _).1 h
    .exact hx
  .refine ⟨a::m,zD.2 ⟨h,h1⟩,fun x=>?_⟩;rw[zB,zB,h2 x]
def Bfs{γ:Type}{L:List γ}{f g:γ->ByteArray}(hinj:∀x∈L,∀y∈L,f x++g x=f y++g y->f x=f y/\g x=g y):
  (dd (L.map f)).length*(dd (L.map g)).length=(dd (L.map fun x=>f x++g x)).length↔∀x∈L,∀y∈L,∃z∈L,f z=f x/\g z=g y:=by
 obtain⟨C,c1,c2⟩:=Bj7 (L.map fun x=>(f x,g x));have hC:C.length=(dd (L.map fun x=>f x++g x)).length:=by
  have hm:(C.map fun p=>p.1++p.2).Nodup:=by
   rw[zC]at c1⊢;rw[zI];refine c1.imp_of_mem fun {p q} hp hq hne he=>?_;obtain⟨x,hx,rfl⟩:=zA.1 ((c2 p).1 hp);obtain⟨y,hy,rfl⟩:=zA.1 ((c2 q).1 hq);obtain⟨h1,h2⟩:=hinj x hx y hy he;exact hne (by rw[h1,h2])
  have e:∀s,s∈(C.map fun p=>p.1++p.2)↔s∈dd (L.map fun x=>f x++g x):=fun s=>by
   rw[Az9,zA,zA];constructor
   .rintro ⟨p,hp,rfl⟩;obtain⟨x,hx,rfl⟩:=zA.1 ((c2 p).1 hp);exact⟨x,hx,rfl⟩
   .rintro ⟨x,hx,rfl⟩;exact⟨(f x,g x),(c2 _).2 (zA.2 ⟨x,hx,rfl⟩),rfl⟩
  have l1:=hm.length_le_of_subset fun s hs=>(e s).1 hs;have l2:=(Ash (l:=L.map fun x=>f x++g x)).length_le_of_subset fun s hs=>(e s).2 hs;rw[zL]at l1 l2;omega
 rw[<-hC];exact Bg9 Ash (fun a=>by rw[Az9,zA]) Ash (fun b=>by rw[Az9,zA]) c1 (fun p=>by rw[c2,zA])
end Go.Own
