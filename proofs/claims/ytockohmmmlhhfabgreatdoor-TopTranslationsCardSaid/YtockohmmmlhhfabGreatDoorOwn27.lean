/- An interpreter of function bodies, sound. No conditions. -/
import Derived.DataReads
import Derived.Below
import GoSem.ClaimChange
import Derived.Test.YtockohmmmlhhfabGreatDoorOwn18
import Derived.Test.YtockohmmmlhhfabGreatDoorOwn4
set_option linter.all false

namespace Go.Own
open D
def TyFs (R:TypeId->List D->Prop):List Field->List D->Prop
 | [],ds=>ds=[]
 | f::fs,ds=>∃ a b,ds=a++b/\R f.type a/\TyFs R fs b
def Ty (P:Program):Nat->TypeId->List D->Prop
 | 0,_,_=>False
 | k+1,t,ds=>
  match P.underlying t with
  | some .bool=>∃ b,ds=[.lit (.bool b)]
  | some (.int q)=>∃ n,(Lit.int q n).wf=true/\ds=[.lit (.int q n)]
  | some .string=>∃ s:ByteArray,s.size<=maxLen/\ds=[.lit (.string s)]
  | some (.slice e)=>∃ es,es.length<=maxLen/\ds=[.sl es]/\∀ x∈es,Ty P k e x
  | some (.struct fs)=>TyFs (Ty P k) fs.toList ds
  | some (.array n e)=>∃ ps:List (List D),ds=ps.flatten/\ps.length=n/\∀ x∈ps,Ty P k e x
  | _=>False
def Aig (size:TypeId->Nat):List Field->Nat->Nat->Bool
 | [],o,n=>o == n
 | f::fs,o,n=>f.offset == o&&Aig size fs (o+size f.type) n
def Adp (P:Program):Nat->TypeId->Bool
 | 0,_=>false
 | k+1,t=>
  match P.underlying t with
  | some .bool=>true
  | some (.int _)=>true
  | some .string=>true
  | some (.slice e)=>decide (0<P.cellsOf e)&&Adp P k e
  | some (.struct fs)=>Aig P.cellsOf fs.toList 0 (P.cellsOf t)&&fs.toList.all fun f=>Adp P k f.type
  | some (.array n e)=>(n*P.cellsOf e == P.cellsOf t)&&Adp P k e
  | _=>false
theorem Akw {M:Mem}:∀ {a b:List D} {u v:List Value},RCs M a u->RCs M b v->RCs M (a++b) (u++v)
 | [],_,_,_,h,k=>by simp only [RCs] at h;subst h;exact k
 | x::xs,b,u,v,h,k=>by
  simp only [RCs] at h;obtain ⟨y,ys,rfl,h1,h2⟩:=h;exact ⟨y,ys++v,rfl,h1,Akw h2 k⟩
theorem Au1 {M:Mem}:∀ {a:List (List D)} {b:List D} {u v:List Value},REs M a u->RCs M b v->REs M (a++[b]) (u++v)
 | [],b,_,v,h,k=>by simp only [REs] at h;subst h;exact ⟨v,[],by simp,k,rfl⟩
 | x::xs,b,u,v,h,k=>by
  simp only [REs] at h;obtain ⟨v1,v2,rfl,h1,h2⟩:=h;exact ⟨v1,v2++v,by simp,h1,Au1 h2 k⟩
def Seg (w:World) (g b:Nat) (vs:List Value):Prop:=∀ j u,vs[j]? = some u->w.cell? ⟨g,b+j,none⟩=some u
theorem Seg.append {w:World} {g b:Nat} {u v:List Value} (h:Seg w g b u) (k:Seg w g (b+u.length) v):Seg w g b (u++v):=by
 intro j x hx;rw [List.getElem?_append] at hx
 split at hx
 ·exact h j x hx
 ·rename_i hj;have:=k (j-u.length) x hx
  rwa [show b+u.length+(j-u.length)=b+j by omega] at this
theorem Seg.at {w:World} {g b:Nat} {vs:List Value} (h:Seg w g b vs) (hne:vs≠[]):At (fun g=>w.heap[g]?) g b vs:=by
 have h0:∃ u,vs[0]? = some u:=by cases vs with
  | nil=>exact absurd rfl hne
  | cons x xs=>exact ⟨x,rfl⟩
 obtain ⟨u,h0⟩:=h0;have hc:=h 0 u h0;unfold World.cell? at hc
 split at hc
 ·rename_i c e fr hg;refine ⟨c,e,fr,hg,fun j v hv=>?_⟩;have:=h j v hv;unfold World.cell? at this;simp only at hg;simp only [hg] at this;simpa using this
 ·cases hc
theorem Az0 {w:World} {base n:Nat} {a:Addr} {vs:List Value} (h:w.cells? base a n=some vs) (ha:a.spot=none):vs.length=n/\Seg w a.block a.off vs:=by
 unfold World.cells? at h
 split at h
 ·have hl:=mapM_some_length h;rw [List.length_range] at hl;refine ⟨hl,fun j u hu=>?_⟩;have hj:j<n:=by
   have:=(List.getElem?_eq_some_iff.1 hu).1;omega
  have:=mapM_some_get h j j (by simp [hj]);rw [hu] at this;rw [← this];congr 1;unfold Addr.add
  split
  ·rename_i h0;subst h0;cases a;simp_all
  ·rfl
 ·cases h
theorem Ax9 {w:World} {base n:Nat} {a:Addr} {vs:List Value} (h:w.cells? base a (n+1)=some vs):a.spot=none:=by
 unfold World.cells? at h
 split at h
 ·have:=mapM_some_get h 0 0 (by simp);have hl:=mapM_some_length h;rw [List.length_range] at hl;have h2:vs[0]? = some vs[0]:=List.getElem?_eq_getElem (by omega);rw [h2] at this;unfold World.cell? at this
  split at this
  ·split at this
   ·cases this
   ·rename_i hs;cases ha:a.spot with
    | none=>rfl
    | some x=>simp [Addr.add,ha] at hs
  ·cases this
 ·cases h
theorem Bae {a:Addr} (h:a.spot=none) (n:Nat):a.add n=⟨a.block,a.off+n,none⟩:=by
 unfold Addr.add
 split
 ·rename_i h0;subst h0;cases a;simp_all
 ·rfl
theorem Aol {w:World} {g b K:Nat} {M:Mem} {R:List D->Prop}:∀ (n:Nat),(∀ i,i<n->∃ ds vs,vs.length=K/\Seg w g (b+i*K) vs/\RCs M ds vs/\R ds) ->
  ∃ es vs,es.length=n/\vs.length=n*K/\Seg w g b vs/\REs M es vs/\∀ x∈es,R x/\x.length=K
 | 0,_=>⟨[],[],rfl,by simp,fun j u hu=>by simp at hu,rfl,fun x hx=>by cases hx⟩
 | n+1,h=>by
  obtain ⟨es,vs,h1,h2,h3,h4,h5⟩:=Aol n fun i hi=>h i (by omega);obtain ⟨ds,us,k1,k2,k3,k4⟩:=h n (by omega);refine ⟨es++[ds],vs++us,by simp [h1],by rw [List.length_append,h2,k1,Nat.succ_mul],h3.append (by rw [h2];exact k2),Au1 h4 k3,fun x hx=>?_⟩;rcases List.mem_append.1 hx with hx | hx
  ·exact h5 x hx
  ·obtain rfl:=List.mem_singleton.1 hx;exact ⟨k4,by rw [← RCs.length k3,k1]⟩
theorem Ao5 {M:Mem} {K:Nat} {R:List D->Prop} {cs:List Value}:∀ (n:Nat),(∀ i,i<n->∃ ds,RCs M ds ((cs.drop (i*K)).take K)/\R ds) ->
  ∃ ps:List (List D),ps.length=n/\RCs M ps.flatten (cs.take (n*K))/\∀ x∈ps,R x
 | 0,_=>⟨[],rfl,by simp [RCs],fun x hx=>by cases hx⟩
 | n+1,h=>by
  obtain ⟨ps,h1,h2,h3⟩:=Ao5 n fun i hi=>h i (by omega);obtain ⟨ds,k1,k2⟩:=h n (by omega);refine ⟨ps++[ds],by simp [h1],?_,fun x hx=>?_⟩
  ·rw [List.flatten_append,Nat.succ_mul,List.take_add];exact Akw h2 (by simpa using k1)
  ·rcases List.mem_append.1 hx with hx | hx
   ·exact h3 x hx
   ·obtain rfl:=List.mem_singleton.1 hx;exact k2
theorem Amh {P:Program} {M:Mem} {R:TypeId->List D->Prop} {cs:List Value}:∀ (fs:List Field) (o:Nat),Aig P.cellsOf fs o cs.length=true ->
  (∀ f∈fs,∃ ds,RCs M ds ((cs.drop f.offset).take (P.cellsOf f.type))/\R f.type ds)->∃ ds,RCs M ds (cs.drop o)/\TyFs R fs ds
 | [],o,h,_=>by
  simp only [Aig,beq_iff_eq] at h;exact ⟨[],by simp [RCs,h],rfl⟩
 | f::fs,o,h,k=>by
  simp only [Aig,Bool.and_eq_true,beq_iff_eq] at h;obtain ⟨ds,h1,h2⟩:=Amh fs _ h.2 fun g hg=>k g (by simp [hg]);obtain ⟨es,k1,k2⟩:=k f (by simp);rw [h.1] at k1;refine ⟨es++ds,?_,es,ds,rfl,k2,h2⟩;have:=Akw k1 (v:=(cs.drop o).drop (P.cellsOf f.type)) (b:=ds) (by rw [List.drop_drop];exact h1)
  rwa [List.take_append_drop] at this
theorem Aji {H:Type} {enc:TypeId×Value->H} {P:Program} {w:World} {base:Nat} {sp:Nat->Bool} {held:Bool} :
  ∀ (k fuel:Nat) (t:TypeId) (cs:List Value) (x:DataW H×List MemPlace),Adp P k t=true->DataW.trod enc P w base sp held fuel t cs=some x ->
   ∃ ds,RCs (fun g=>w.heap[g]?) ds cs/\Ty P k t ds
 | 0,_,_,_,_,h,_=>by simp [Adp] at h
 | k+1,0,t,cs,x,_,h=>by simp [DataW.trod] at h
 | k+1,fuel+1,t,cs,x,h,hd=>by
  unfold DataW.trod at hd;cases hu:P.underlying t with
  | none=>simp [Adp,hu] at h
  | some ty=>
   rw [hu] at hd;simp only [Ty,hu];cases ty with
   | bool=>
    split at hd<;>first | cases hd;done | (rename_i he;cases he)
    exact ⟨[.lit _],⟨_,[],rfl,⟨rfl,rfl⟩,rfl⟩,_,rfl⟩
   | int q=>
    split at hd<;>first | cases hd;done | (rename_i he;cases he)
    split at hd
    ·rename_i hq;rw [hq.1];exact ⟨[.lit _],⟨_,[],rfl,⟨rfl,rfl⟩,rfl⟩,_,hq.2,rfl⟩
    ·cases hd
   | string=>
    split at hd<;>first | cases hd;done | (rename_i he;cases he)
    split at hd
    ·rename_i hq;exact ⟨[.lit _],⟨_,[],rfl,⟨rfl,rfl⟩,rfl⟩,_,hq,rfl⟩
    ·cases hd
   | slice e=>
    simp only [Adp,hu,Bool.and_eq_true,decide_eq_true_eq] at h
    split at hd<;>first | cases hd;done | (rename_i he;cases he)
    ·exact ⟨[.sl []],⟨_,[],rfl,⟨none,0,0,rfl,rfl,Nat.le_refl _,Nat.zero_le _,.inl rfl⟩,rfl⟩,[],Nat.zero_le _,rfl,fun x hx=>by cases hx⟩
    ·rename_i a len cap;simp only at hd
     split at hd
     ·rename_i hb;cases hm:(List.range len).mapM (fun i=>(w.cells? base (a.add (i*P.cellsOf e)) (P.cellsOf e)).bind (DataW.trod enc P w base sp held fuel e)) with
      | none=>rw [hm] at hd;cases hd
      | some ys=>
       have hl:=mapM_some_length hm;rw [List.length_range] at hl;have hi:∀ i,i<len->∃ y vs,w.cells? base (a.add (i*P.cellsOf e)) (P.cellsOf e)=some vs/\DataW.trod enc P w base sp held fuel e vs=some y:=by
        intro i hi;have:=mapM_some_get hm i i (by simp [hi]);rw [List.getElem?_eq_getElem (by omega)] at this;obtain ⟨vs,h1,h2⟩:=Option.bind_eq_some_iff.1 this;exact ⟨_,vs,h1,h2⟩
       rcases Nat.eq_zero_or_pos len with h0 | h0
       ·subst h0;exact ⟨[.sl []],⟨_,[],rfl,⟨some a,0,cap,rfl,rfl,hb.2.1,Nat.zero_le _,.inl rfl⟩,rfl⟩,[],Nat.zero_le _,rfl,fun x hx=>by cases hx⟩
       ·have hs:a.spot=none:=by
         obtain ⟨y,vs,h1,_⟩:=hi 0 h0;obtain ⟨m,hm⟩:∃ m,P.cellsOf e=m+1:=⟨P.cellsOf e-1,by omega⟩
         rw [Nat.zero_mul,hm] at h1;exact Ax9 h1
        obtain ⟨es,vs,k1,k2,k3,k4,k5⟩:=Aol (w:=w) (g:=a.block) (b:=a.off) (K:=P.cellsOf e) (M:=fun g=>w.heap[g]?) (R:=Ty P k e) len fun i hl=>by
         obtain ⟨y,vs,h1,h2⟩:=hi i hl;rw [Bae hs] at h1;obtain ⟨j1,j2⟩:=Az0 h1 rfl;obtain ⟨ds,r1,r2⟩:=Aji k fuel e vs y h.2 h2;exact ⟨ds,vs,j1,j2,r1,r2⟩
        have hv:vs≠[]:=by
         intro hv;rw [hv] at k2;have:0<len*P.cellsOf e:=Nat.mul_pos h0 h.1;simp at k2;omega
        have hlen:len<=maxLen:=Nat.le_trans hb.2.1 hb.2.2;refine ⟨[.sl es],⟨_,[],rfl,⟨some a,len,cap,rfl,k1.symm,hb.2.1,hlen,.inr ⟨a.block,a.off,P.cellsOf e,vs,?_,k3.at hv,h.1,fun x hx=>(k5 x hx).2,k4⟩⟩,rfl⟩,es,by omega,rfl,fun x hx=>(k5 x hx).1⟩;cases a;simp_all
     ·cases hd
   | struct fs=>
    simp only [Adp,hu,Bool.and_eq_true,List.all_eq_true] at h
    split at hd<;>first | (rename_i he;cases he;done) | (rename_i he;cases he) | (exfalso;simp_all;done)
    split at hd
    ·rename_i hc;rw [← hc] at h;obtain ⟨xs,hm,_⟩:=Option.map_eq_some_iff.1 hd;obtain ⟨ds,h1,h2⟩:=Amh (P:=P) (M:=fun g=>w.heap[g]?) (R:=Ty P k) fs.toList 0 h.1 fun f hf=>by
      obtain ⟨i,hi⟩:=List.getElem?_of_mem hf;have:=mapM_some_get hm i f hi;have hl:=mapM_some_length hm;have hlt:=(List.getElem?_eq_some_iff.1 hi).1;rw [List.getElem?_eq_getElem (by omega)] at this;exact Aji k fuel f.type _ _ (h.2 f hf) this
     exact ⟨ds,h1,h2⟩
    ·cases hd
   | array n e=>
    simp only [Adp,hu,Bool.and_eq_true,beq_iff_eq] at h
    split at hd<;>first | (rename_i he;cases he;done) | (rename_i he;cases he) | (exfalso;simp_all;done)
    split at hd
    ·rename_i hc;obtain ⟨xs,hm,_⟩:=Option.map_eq_some_iff.1 hd;have hl:=mapM_some_length hm;rw [List.length_range] at hl;obtain ⟨ps,h1,h2,h3⟩:=Ao5 (M:=fun g=>w.heap[g]?) (K:=P.cellsOf e) (R:=Ty P k e) n fun i hi=>by
      have:=mapM_some_get hm i i (by simp [hi]);rw [List.getElem?_eq_getElem (by omega)] at this;exact Aji k fuel e _ _ h.2 this
     rw [h.1,← hc,List.take_length] at h2;exact ⟨_,h2,ps,rfl,h1,h3⟩
    ·cases hd
   | _=>simp [Adp,hu] at h
end Go.Own
