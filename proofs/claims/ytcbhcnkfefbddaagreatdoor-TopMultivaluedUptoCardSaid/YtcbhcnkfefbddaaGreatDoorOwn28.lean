/- An interpreter of function bodies, sound. No conditions. -/
import Derived.DataReads
import Derived.Below
import GoSem.ClaimChange
import Derived.Test.YtcbhcnkfefbddaaGreatDoorOwn17
import Derived.Test.YtcbhcnkfefbddaaGreatDoorOwn4
set_option linter.all false
open List renaming length_range->aA

namespace Go.aS
open D
def Hv(R:TypeId->List D->Prop):List Field->List D->Prop
 |[],az=>az=[]
 |f::fs,az=>∃a b,az=a++b/\R f.type a/\Hv R fs b
def jE(P:Program):Nat->TypeId->List D->Prop
 |0,_,_=>False
 |k+1,t,az=>
  match P.underlying t with
  |some .bool=>∃b,az=[.lit (.bool b)]
  |some (.int q)=>∃n,(Lit.int q n).wf=true/\az=[.lit (.int q n)]
  |some .string=>∃s:ByteArray,s.size<=maxLen/\az=[.lit (.string s)]
  |some (.slice e)=>∃es,es.length<=maxLen/\az=[.sl es]/\∀x∈es,jE P k e x
  |some (.struct fs)=>Hv (jE P k) fs.toList az
  |some (.array n e)=>∃ps:List (List D),az=ps.flatten/\ps.length=n/\∀x∈ps,jE P k e x
  |_=>False
def CU(size:TypeId->Nat):List Field->Nat->Nat->Bool
 |[],o,n=>o==n
 |f::fs,o,n=>f.offset==o&&CU size fs (o+size f.type) n
def oy(P:Program):Nat->TypeId->Bool
 |0,_=>false
 |k+1,t=>
  match P.underlying t with
  |some .bool=>true
  |some (.int _)=>true
  |some .string=>true
  |some (.slice e)=>decide (0<P.cellsOf e)&&oy P k e
  |some (.struct fs)=>CU P.cellsOf fs.toList 0 (P.cellsOf t)&&fs.toList.all λf=>oy P k f.type
  |some (.array n e)=>(n*P.cellsOf e==P.cellsOf t)&&oy P k e
  |_=>false
theorem Kf{M:Mem}:∀{a b:List D}{u v:List Value},c4 M a u->c4 M b v->c4 M (a++b) (u++v)
 |[],_,_,_,h,k=>by simp only[c4]at h;subst h;exact k
 |x::xs,b,u,v,h,k=>by
  simp only[c4]at h;obtain⟨y,fA,rfl,I,aa⟩:=h;exact⟨y,fA++v,rfl,I,Kf aa k⟩
theorem SW{M:Mem}:∀{a:List (List D)}{b:List D}{u v:List Value},fo M a u->c4 M b v->fo M (a++[b]) (u++v)
 |[],b,_,v,h,k=>by simp only[fo]at h;subst h;exact⟨v,[],by simp,k,rfl⟩
 |x::xs,b,u,v,h,k=>by
  simp only[fo]at h;obtain⟨v1,v2,rfl,I,aa⟩:=h;exact⟨v1,v2++v,by simp,I,SW aa k⟩
def uI(w:World)(g b:Nat)(vs:List Value):Prop:=∀j u,vs[j]?=some u->w.cell? ⟨g,b+j,none⟩=some u
theorem uI.append{w:World}{g b:Nat}{u v:List Value}(h:uI w g b u)(k:uI w g (b+u.length) v):uI w g b (u++v):=by
 intro j x U;rw[List.getElem?_append]at U
 split at U
 .exact h j x U
 .rename_i aH;have:=k (j-u.length) x U
  rwa [show b+u.length+(j-u.length)=b+j by omega]at this
theorem uI.at{w:World}{g b:Nat}{vs:List Value}(h:uI w g b vs)(cI:vs≠[]):At (λg=>w.heap[g]?) g b vs:=by
 have aO:∃u,vs[0]?=some u:=by cases vs with
  |nil=>exact absurd rfl cI
  |cons x xs=>exact⟨x,rfl⟩
 obtain⟨u,aO⟩:=aO;have ad:=h 0 u aO;unfold World.cell? at ad
 split at ad
 .rename_i c e fr ak;refine⟨c,e,fr,ak,λj v av=>?_⟩;have:=h j v av;unfold World.cell? at this;simp only at ak;simp only[ak]at this;simpa using this
 .cases ad
theorem aaK{w:World}{base n:Nat}{a:Addr}{vs:List Value}(h:w.cells? base a n=some vs)(aC:a.spot=none):vs.length=n/\uI w a.block a.off vs:=by
 unfold World.cells? at h
 split at h
 .have hl:=mapM_some_length h;rw[aA]at hl;refine⟨hl,λj u hu=>?_⟩;have aH:j<n:=by
   have:=(List.getElem?_eq_some_iff.1 hu).1;omega
  have:=mapM_some_get h j j (by simp[aH]);rw[hu]at this;rw[<-this];congr 1;unfold Addr.add
  split
  .rename_i aO;subst aO;cases a;simp_all
  .rfl
 .cases h
theorem ZO{w:World}{base n:Nat}{a:Addr}{vs:List Value}(h:w.cells? base a (n+1)=some vs):a.spot=none:=by
 unfold World.cells? at h
 split at h
 .have:=mapM_some_get h 0 0 (by simp);have hl:=mapM_some_length h;rw[aA]at hl;have aa:vs[0]?=some vs[0]:=List.getElem?_eq_getElem (by omega);rw[aa]at this;unfold World.cell? at this
  split at this
  .split at this
   .cases this
   .rename_i ae;cases aC:a.spot with
    |none=>rfl
    |some x=>simp[Addr.add,aC]at ae
  .cases this
 .cases h
theorem abN{a:Addr}(h:a.spot=none)(n:Nat):a.add n=⟨a.block,a.off+n,none⟩:=by
 unfold Addr.add
 split
 .rename_i aO;subst aO;cases a;simp_all
 .rfl
end Go.aS
