/- An interpreter of function bodies, sound. No conditions. -/
import Derived.DataReads
import Derived.Below
import GoSem.ClaimChange
import Derived.Test.YtmiedlcblpiemaaGreatDoorOwn18
import Derived.Test.YtmiedlcblpiemaaGreatDoorOwn4
set_option linter.all false
open List renaming length_range->zA

namespace Go.Own
open D
def TyFs(R:TypeId->List D->Prop):List Field->List D->Prop
 |[],ds=>ds=[]
 |f::fs,ds=>∃a b,ds=a++b/\R f.type a/\TyFs R fs b
def Ty(P:Program):Nat->TypeId->List D->Prop
 |0,_,_=>False
 |k+1,t,ds=>
  match P.underlying t with
  |some .bool=>∃b,ds=[.lit (.bool b)]
  |some (.int q)=>∃n,(Lit.int q n).wf=true/\ds=[.lit (.int q n)]
  |some .string=>∃s:ByteArray,s.size<=maxLen/\ds=[.lit (.string s)]
  |some (.slice e)=>∃es,es.length<=maxLen/\ds=[.sl es]/\∀x∈es,Ty P k e x
  |some (.struct fs)=>TyFs (Ty P k) fs.toList ds
  |some (.array n e)=>∃ps:List (List D),ds=ps.flatten/\ps.length=n/\∀x∈ps,Ty P k e x
  |_=>False
def Akx(size:TypeId->Nat):List Field->Nat->Nat->Bool
 |[],o,n=>o==n
 |f::fs,o,n=>f.offset==o&&Akx size fs (o+size f.type) n
def Ael(P:Program):Nat->TypeId->Bool
 |0,_=>false
 |k+1,t=>
  match P.underlying t with
  |some .bool=>true
  |some (.int _)=>true
  |some .string=>true
  |some (.slice e)=>decide (0<P.cellsOf e)&&Ael P k e
  |some (.struct fs)=>Akx P.cellsOf fs.toList 0 (P.cellsOf t)&&fs.toList.all fun f=>Ael P k f.type
  |some (.array n e)=>(n*P.cellsOf e==P.cellsOf t)&&Ael P k e
  |_=>false
theorem Anm{M:Mem}:∀{a b:List D}{u v:List Value},RCs M a u->RCs M b v->RCs M (a++b) (u++v)
 |[],_,_,_,h,k=>by simp only[RCs]at h;subst h;exact k
 |x::xs,b,u,v,h,k=>by
  simp only[RCs]at h;obtain⟨y,ys,rfl,h1,h2⟩:=h;exact⟨y,ys++v,rfl,h1,Anm h2 k⟩
theorem Ayq{M:Mem}:∀{a:List (List D)}{b:List D}{u v:List Value},REs M a u->RCs M b v->REs M (a++[b]) (u++v)
 |[],b,_,v,h,k=>by simp only[REs]at h;subst h;exact⟨v,[],by simp,k,rfl⟩
 |x::xs,b,u,v,h,k=>by
  simp only[REs]at h;obtain⟨v1,v2,rfl,h1,h2⟩:=h;exact⟨v1,v2++v,by simp,h1,Ayq h2 k⟩
def Seg(w:World)(g b:Nat)(vs:List Value):Prop:=∀j u,vs[j]?=some u->w.cell? ⟨g,b+j,none⟩=some u
theorem Seg.append{w:World}{g b:Nat}{u v:List Value}(h:Seg w g b u)(k:Seg w g (b+u.length) v):Seg w g b (u++v):=by
 intro j x hx;rw[List.getElem?_append]at hx
 split at hx
 .exact h j x hx
 .rename_i hj;have:=k (j-u.length) x hx
  rwa [show b+u.length+(j-u.length)=b+j by omega]at this
theorem Seg.at{w:World}{g b:Nat}{vs:List Value}(h:Seg w g b vs)(hne:vs≠[]):At (fun g=>w.heap[g]?) g b vs:=by
 have h0:∃u,vs[0]?=some u:=by cases vs with
  |nil=>exact absurd rfl hne
  |cons x xs=>exact⟨x,rfl⟩
 obtain⟨u,h0⟩:=h0;have hc:=h 0 u h0;unfold World.cell? at hc
 split at hc
 .rename_i c e fr hg;refine⟨c,e,fr,hg,fun j v hv=>?_⟩;have:=h j v hv;unfold World.cell? at this;simp only at hg;simp only[hg]at this;simpa using this
 .cases hc
theorem Bf7{w:World}{base n:Nat}{a:Addr}{vs:List Value}(h:w.cells? base a n=some vs)(ha:a.spot=none):vs.length=n/\Seg w a.block a.off vs:=by
 unfold World.cells? at h
 split at h
 .have hl:=mapM_some_length h;rw[zA]at hl;refine⟨hl,fun j u hu=>?_⟩;have hj:j<n:=by
   have:=(List.getElem?_eq_some_iff.1 hu).1;omega
  have:=mapM_some_get h j j (by simp[hj]);rw[hu]at this;rw[<-this];congr 1;unfold Addr.add
  split
  .rename_i h0;subst h0;cases a;simp_all
  .rfl
 .cases h
theorem Bdc{w:World}{base n:Nat}{a:Addr}{vs:List Value}(h:w.cells? base a (n+1)=some vs):a.spot=none:=by
 unfold World.cells? at h
 split at h
 .have:=mapM_some_get h 0 0 (by simp);have hl:=mapM_some_length h;rw[zA]at hl;have h2:vs[0]?=some vs[0]:=List.getElem?_eq_getElem (by omega);rw[h2]at this;unfold World.cell? at this
  split at this
  .split at this
   .cases this
   .rename_i hs;cases ha:a.spot with
    |none=>rfl
    |some x=>simp[Addr.add,ha]at hs
  .cases this
 .cases h
theorem Bh4{a:Addr}(h:a.spot=none)(n:Nat):a.add n=⟨a.block,a.off+n,none⟩:=by
 unfold Addr.add
 split
 .rename_i h0;subst h0;cases a;simp_all
 .rfl
end Go.Own
