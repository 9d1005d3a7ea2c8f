/- An interpreter of function bodies, sound. No conditions. -/
import Derived.WalkKit
import Derived.Test.YtockohmmmlhhfabGreatDoorOwn3
set_option linter.all false
namespace Go.Own
open D
abbrev Mem:=Nat->Option Obj
def Mem.le (M M':Mem):Prop:=∀ g o,M g=some o->M' g=some o
theorem Mem.le_refl (M:Mem):M.le M:=fun _ _ h=>h
theorem Mem.le_trans {M1 M2 M3:Mem} (h:M1.le M2) (k:M2.le M3):M1.le M3:=fun g o e=>k g o (h g o e)
def At (M:Mem) (g b:Nat) (vs:List Value):Prop:=∃ cs e fr,M g=some (.cells cs e fr)/\∀ j u,vs[j]? = some u->cs[b+j]? = some u
theorem At.mono {M M':Mem} (h:M.le M') {g b:Nat} {vs:List Value} (k:At M g b vs):At M' g b vs:=by
 obtain ⟨cs,e,fr,h1,h2⟩:=k;exact ⟨cs,e,fr,h _ _ h1,h2⟩
mutual
def RI (M:Mem):D->Value->Prop
 | .lit v,u=>u=v/\v.oneCell'=true
 | .sl es,u=>∃ A n c,u=.slice A n c/\n=es.length/\n<=c/\n<=maxLen/\(es=[]∨∃ g b k vs,A=some ⟨g,b,none⟩/\At M g b vs/\0<k/\(∀ x∈es,x.length=k)/\REs M es vs)
 | .ref cs,u=>∃ g b vs,u=.pointer (some ⟨g,b,none⟩)/\At M g b vs/\RCs M cs vs
 | .fn f cs,u=>∃ vs,u=.func (.func f) #[] vs.toArray/\RCs M cs vs
 | _,_=>False
def RCs (M:Mem):List D->List Value->Prop
 | [],vs=>vs=[]
 | c::cs,vs=>∃ v vs',vs=v::vs'/\RI M c v/\RCs M cs vs'
def REs (M:Mem):List (List D)->List Value->Prop
 | [],vs=>vs=[]
 | e::es,vs=>∃ v1 v2,vs=v1++v2/\RCs M e v1/\REs M es v2
end
theorem RI.one {M:Mem} {d:D} {v:Value} (h:RI M d v):v.oneCell'=true:=by
 cases d<;>simp only [RI] at h
 case lit=>rw [h.1];exact h.2
 case sl=>obtain ⟨A,n,c,rfl,_⟩:=h;rfl
 case ref=>obtain ⟨g,b,vs,rfl,_⟩:=h;rfl
 case fn=>obtain ⟨vs,rfl,_⟩:=h;rfl
mutual
theorem RI.mono {M M':Mem} (h:M.le M'):∀ (d:D) (v:Value),RI M d v->RI M' d v
 | .lit v,u,k=>by simp only [RI] at k ⊢;exact k
 | .sl es,u,k=>by
  simp only [RI] at k ⊢;obtain ⟨A,n,c,h1,h2,h3,h4,k⟩:=k;refine ⟨A,n,c,h1,h2,h3,h4,?_⟩;rcases k with k | ⟨g,b,q,vs,a,b',c',d',e'⟩
  ·exact .inl k
  ·exact .inr ⟨g,b,q,vs,a,b'.mono h,c',d',REs.mono h es vs e'⟩
 | .ref cs,u,k=>by
  simp only [RI] at k ⊢;obtain ⟨g,b,vs,h1,h2,h3⟩:=k;exact ⟨g,b,vs,h1,h2.mono h,RCs.mono h cs vs h3⟩
 | .fn f cs,u,k=>by
  simp only [RI] at k ⊢;obtain ⟨vs,h1,h2⟩:=k;exact ⟨vs,h1,RCs.mono h cs vs h2⟩
 | .undef,_,k=>by simp [RI] at k
 | .own _,_,k=>by simp [RI] at k
 | .agg _,_,k=>by simp [RI] at k
 | .box _,_,k=>by simp [RI] at k
 | .map _,_,k=>by simp [RI] at k
 | .bld ..,_,k=>by simp [RI] at k
 | .tup _,_,k=>by simp [RI] at k
 | .alias ..,_,k=>by simp [RI] at k
 | .sub ..,_,k=>by simp [RI] at k
 | .place ..,_,k=>by simp [RI] at k
theorem RCs.mono {M M':Mem} (h:M.le M'):∀ (cs:List D) (vs:List Value),RCs M cs vs->RCs M' cs vs
 | [],vs,k=>by simp only [RCs] at k ⊢;exact k
 | c::cs,vs,k=>by
  simp only [RCs] at k ⊢;obtain ⟨v,vs',h1,h2,h3⟩:=k;exact ⟨v,vs',h1,RI.mono h c v h2,RCs.mono h cs vs' h3⟩
theorem REs.mono {M M':Mem} (h:M.le M'):∀ (es:List (List D)) (vs:List Value),REs M es vs->REs M' es vs
 | [],vs,k=>by simp only [REs] at k ⊢;exact k
 | e::es,vs,k=>by
  simp only [REs] at k ⊢;obtain ⟨v1,v2,h1,h2,h3⟩:=k;exact ⟨v1,v2,h1,RCs.mono h e v1 h2,REs.mono h es v2 h3⟩
end
inductive T where
 | leaf (d:D) (v:Value)
 | own (g cap e:Nat) (sp:List Value) (es:List (List T))
 | nil
 | agg (cs:List T)
 | box (g e:Nat) (cs:List T)
 | map (r clock:Nat) (es:List (Value×Nat×D×Value))
 | bld (v:Value) (bs:List (Nat×Obj)) (t e:Nat) (l:List UInt8)
 | tup (ds:List T)
 deriving Inhabited
namespace T
mutual
def val:T->Value
 | leaf _ v=>v
 | own g cap _ _ es=>.slice (some ⟨g,0,none⟩) es.length cap
 | nil=>.slice none 0 0
 | agg cs=>.agg (vals cs).toArray
 | box g _ _=>.pointer (some ⟨g,0,none⟩)
 | map r _ _=>.map (some r)
 | bld v _ _ _ _=>v
 | tup ds=>.tuple (vals ds).toArray
def vals:List T->List Value
 | []=>[]
 | t::ts=>val t::vals ts
end
def valsE:List (List T)->List Value
 | []=>[]
 | e::es=>vals e++valsE es
def entries (es:List (Value×Nat×D×Value)):Array MapEntry:=(es.map fun x=>{ key:=x.1,val:=x.2.2.2,born:=x.2.1 }).toArray
mutual
def blocks:T->List (Nat×Obj)
 | leaf _ _=>[]
 | own g _ e sp es=>(g,.cells (valsE es++sp).toArray e (0,0))::blocksE es
 | nil=>[]
 | agg cs=>blocksC cs
 | box g e cs=>(g,.cells (vals cs).toArray e (0,0))::blocksC cs
 | map r clock es=>[(r,.map (entries es) clock)]
 | bld _ bs _ _ _=>bs
 | tup ds=>blocksC ds
def blocksC:List T->List (Nat×Obj)
 | []=>[]
 | t::ts=>blocks t++blocksC ts
def blocksE:List (List T)->List (Nat×Obj)
 | []=>[]
 | e::es=>blocksC e++blocksE es
end
mutual
def erase:T->D
 | leaf d _=>d
 | own _ _ _ _ es=>.own (eraseE es)
 | nil=>.own []
 | agg cs=>.agg (eraseC cs)
 | box _ _ cs=>.box (eraseC cs)
 | map _ _ es=>.map (es.map fun x=>(x.1,x.2.2.1))
 | bld _ _ t e l=>.bld t e l
 | tup ds=>.tup (eraseC ds)
def eraseC:List T->List D
 | []=>[]
 | t::ts=>erase t::eraseC ts
def eraseE:List (List T)->List (List D)
 | []=>[]
 | e::es=>eraseC e::eraseE es
end
theorem vals_eq (ts:List T):vals ts=ts.map val:=by induction ts<;>simp [vals, *]
theorem valsE_eq (es:List (List T)):valsE es=es.flatMap vals:=by induction es<;>simp [valsE, *]
theorem blocksC_eq (ts:List T):blocksC ts=ts.flatMap blocks:=by induction ts<;>simp [blocksC, *]
theorem blocksE_eq (es:List (List T)):blocksE es=es.flatMap blocksC:=by induction es<;>simp [blocksE, *]
theorem eraseC_eq (ts:List T):eraseC ts=ts.map erase:=by induction ts<;>simp [eraseC, *]
theorem eraseE_eq (es:List (List T)):eraseE es=es.map (·.map erase):=by induction es<;>simp [eraseE,eraseC_eq, *]
@[simp] theorem eraseC_length (ts:List T):(eraseC ts).length=ts.length:=by simp [eraseC_eq]
@[simp] theorem eraseE_length (ts:List (List T)):(eraseE ts).length=ts.length:=by simp [eraseE_eq]
@[simp] theorem vals_length (ts:List T):(vals ts).length=ts.length:=by simp [vals_eq]
theorem vals_append (a b:List T):vals (a++b)=vals a++vals b:=by simp [vals_eq]
theorem valsE_append (a b:List (List T)):valsE (a++b)=valsE a++valsE b:=by simp [valsE_eq]
theorem blocksC_append (a b:List T):blocksC (a++b)=blocksC a++blocksC b:=by simp [blocksC_eq]
theorem blocksE_append (a b:List (List T)):blocksE (a++b)=blocksE a++blocksE b:=by simp [blocksE_eq]
def keyCell:Value->Bool
 | .int _ _=>true
 | .string _=>true
 | _=>false
def plainKey:Value->Bool
 | .agg cs=>cs.toList.all keyCell
 | v=>keyCell v
def BldOK (v:Value) (bs:List (Nat×Obj)) (t e:Nat) (l:List UInt8):Prop:=
 ∃ g p,v=.pointer (some ⟨g,0,none⟩)/\(p=.pointer none∨p=v)/\((l=[]/\bs=[(g,.cells #[p,.slice none 0 0] t (0,0))]) ∨
  ∃ b cap cur,bs=[(g,.cells #[p,.slice (some ⟨b,0,none⟩) l.length cap] t (0,0)),(b,.cells cur e (0,0))]/\l.length<=cap/\cap<=maxLen/\cur.size=cap/\cur.toList.take l.length=l.map fun c=>Value.int .u8 c.toNat)
mutual
def wf (M:Mem):T->Prop
 | leaf d v=>(d=.undef/\v.oneCell'=true)∨RI M d v
 | own _ cap _ sp es=>(∃ k,0<k/\(∀ x∈es,x.length=k)/\sp.length+es.length*k=cap*k)/\(es.length<=cap/\(es.length=0->cap=0))/\cap<=maxLen/\(∀ u∈sp,u.oneCell'=true)/\wfE M es
 | nil=>True
 | agg _=>False
 | box _ _ cs=>wfC M cs
 | map _ _ es=>∀ x∈es,plainKey x.1=true/\wfV M x.2.2.1 x.2.2.2
 | bld v bs t e l=>BldOK v bs t e l
 | tup _=>False
def wfC (M:Mem):List T->Prop
 | []=>True
 | t::ts=>wf M t/\wfC M ts
def wfE (M:Mem):List (List T)->Prop
 | []=>True
 | e::es=>wfC M e/\wfE M es
def wfV (M:Mem):D->Value->Prop
 | .agg cs,u=>∃ vs,u=.agg vs.toArray/\RCs M cs vs
 | .own [],u=>u=.slice none 0 0
 | d,u=>RI M d u
end
end T
end Go.Own
namespace Go.Own
open D
theorem Agz {α:Type} {l:List α} {i:Nat} {a:α} (h:l[i]? = some a):l.set i a=l:=by
 obtain ⟨hi,rfl⟩:=List.getElem?_eq_some_iff.1 h;exact List.set_getElem_self hi
namespace T
def elem:T->Nat->Option (List T)
 | own _ _ _ _ es,i=>es[i]?
 | box _ _ cs,0=>some cs
 | agg cs,0=>some cs
 | tup cs,0=>some cs
 | _,_=>none
def setElem:T->Nat->List T->Option T
 | own g cap e sp es,i,cs=>some (own g cap e sp (es.set i cs))
 | box g e _,0,cs=>some (box g e cs)
 | agg _,0,cs=>some (agg cs)
 | tup _,0,cs=>some (tup cs)
 | nil,_,_=>some nil
 | _,_,_=>none
def getP:T->Path->Option T
 | t,[]=>some t
 | t,(i,o)::ps=>match t.elem i with
  | some cs=>match cs[o]? with
   | some c=>getP c ps
   | none=>none
  | none=>none
def setP:T->Path->T->Option T
 | _,[],x=>some x
 | t,(i,o)::ps,x=>match t.elem i with
  | some cs=>match cs[o]? with
   | some c=>match setP c ps x with
    | some c'=>t.setElem i (cs.set o c')
    | none=>none
   | none=>none
  | none=>none
mutual
def tidy:T->Prop
 | leaf d _=>match d with
  | .own _ | .box _ | .agg _ | .tup _ | .map _ | .bld ..=>False
  | _=>True
 | own _ _ _ _ es=>tidyE es
 | nil=>True
 | agg cs=>tidyC cs
 | box _ _ cs=>tidyC cs
 | map _ _ _=>True
 | bld _ _ _ _ _=>True
 | tup ds=>tidyC ds
def tidyC:List T->Prop
 | []=>True
 | t::ts=>tidy t/\tidyC ts
def tidyE:List (List T)->Prop
 | []=>True
 | e::es=>tidyC e/\tidyE es
end
theorem tidyC_iff (ts:List T):tidyC ts↔∀ t∈ts,tidy t:=by induction ts<;>simp [tidyC, *]
theorem tidyE_iff (es:List (List T)):tidyE es↔∀ e∈es,tidyC e:=by induction es<;>simp [tidyE, *]
theorem wfC_iff (M:Mem) (ts:List T):wfC M ts↔∀ t∈ts,wf M t:=by induction ts<;>simp [wfC, *]
theorem wfE_iff (M:Mem) (es:List (List T)):wfE M es↔∀ e∈es,wfC M e:=by induction es<;>simp [wfE, *]
theorem elem_erase (t:T) (ht:tidy t) (i:Nat):(erase t).elem i=(t.elem i).map eraseC:=by
 cases t with
 | leaf d v=>
  cases d<;>simp_all [tidy,erase,D.elem,elem]
 | own g cap e sp es=>simp [erase,D.elem,elem,eraseE_eq,funext eraseC_eq]
 | nil=>simp [erase,D.elem,elem]
 | agg cs=>cases i<;>simp [erase,D.elem,elem]
 | box g e cs=>cases i<;>simp [erase,D.elem,elem]
 | map r c es=>simp [erase,D.elem,elem]
 | bld v0 bs0 t0 e0 l0=>simp [erase,D.elem,elem]
 | tup cs=>cases i<;>simp [erase,D.elem,elem]
theorem tidy_elem {t:T} (ht:tidy t) {i:Nat} {cs:List T} (h:t.elem i=some cs):tidyC cs:=by
 cases t with
 | leaf d v=>simp [elem] at h
 | own g cap e sp es=>
  simp only [elem] at h;simp only [tidy] at ht;exact (tidyE_iff es).1 ht cs (List.mem_of_getElem? h)
 | nil=>simp [elem] at h
 | agg cs'=>cases i<;>simp [elem] at h;subst h;exact ht
 | box g e cs'=>cases i<;>simp [elem] at h;subst h;exact ht
 | map r c es=>simp [elem] at h
 | bld v0 bs0 t0 e0 l0=>simp [elem] at h
 | tup cs'=>cases i<;>simp [elem] at h;subst h;exact ht
theorem getP_erase:∀ (ps:Path) (t:T),tidy t->(erase t).getP ps=(t.getP ps).map erase
 | [],t,_=>by simp [D.getP,getP]
 | (i,o)::ps,t,ht=>by
  simp only [D.getP,getP,elem_erase t ht i];cases h:t.elem i with
  | none=>simp
  | some cs=>
   have hc:=tidy_elem ht h;simp only [Option.map_some,eraseC_eq,List.getElem?_map];cases hco:cs[o]? with
   | none=>simp
   | some c=>simpa using getP_erase ps c ((tidyC_iff cs).1 hc c (List.mem_of_getElem? hco))
theorem tidy_getP:∀ (ps:Path) {t c:T},tidy t->t.getP ps=some c->tidy c
 | [],t,c,ht,h=>by simp [getP] at h;subst h;exact ht
 | (i,o)::ps,t,c,ht,h=>by
  simp only [getP] at h;cases hi:t.elem i with
  | none=>simp [hi] at h
  | some cs=>
   simp only [hi] at h;cases ho:cs[o]? with
   | none=>simp [ho] at h
   | some c1=>
    simp only [ho] at h;exact tidy_getP ps ((tidyC_iff cs).1 (tidy_elem ht hi) c1 (List.mem_of_getElem? ho)) h
theorem setElem_erase (t:T) (ht:tidy t) (i:Nat) (cs:List T):(erase t).setElem i (eraseC cs)=(t.setElem i cs).map erase:=by
 cases t with
 | leaf d v=>cases d<;>simp_all [tidy,erase,D.setElem,setElem]
 | own g cap e sp es=>simp [erase,D.setElem,setElem,eraseE_eq,eraseC_eq,List.map_set]
 | nil=>simp [erase,D.setElem,setElem]
 | agg cs'=>cases i<;>simp [erase,D.setElem,setElem]
 | box g e cs'=>cases i<;>simp [erase,D.setElem,setElem]
 | map r c es=>simp [erase,D.setElem,setElem]
 | bld v0 bs0 t0 e0 l0=>simp [erase,D.setElem,setElem]
 | tup cs'=>cases i<;>simp [erase,D.setElem,setElem]
theorem setP_erase:∀ (ps:Path) (t x:T),tidy t->(erase t).setP ps (erase x)=(t.setP ps x).map erase
 | [],t,x,_=>by simp [D.setP,setP]
 | (i,o)::ps,t,x,ht=>by
  simp only [D.setP,setP,elem_erase t ht i];cases h:t.elem i with
  | none=>simp
  | some cs=>
   have hc:=tidy_elem ht h;simp only [Option.map_some,eraseC_eq,List.getElem?_map];cases hco:cs[o]? with
   | none=>simp
   | some c=>
    simp only [Option.map_some,setP_erase ps c x ((tidyC_iff cs).1 hc c (List.mem_of_getElem? hco))];cases hs:c.setP ps x with
    | none=>simp
    | some c'=>
     simp only [Option.map_some];rw [← setElem_erase t ht i (cs.set o c'),eraseC_eq,List.map_set]
theorem tidy_setElem {t t':T} (ht:tidy t) {i:Nat} {cs:List T} (hc:tidyC cs) (h:t.setElem i cs=some t'):tidy t':=by
 cases t with
 | leaf d v=>simp [setElem] at h
 | own g cap e sp es=>
  simp only [setElem,zJ] at h;subst h;simp only [tidy] at ht ⊢;rw [tidyE_iff] at ht ⊢;intro x hx;rcases List.mem_or_eq_of_mem_set hx with hx | rfl
  ·exact ht x hx
  ·exact hc
 | nil=>simp [setElem] at h;subst h;simp [tidy]
 | agg cs'=>cases i<;>simp [setElem] at h;subst h;exact hc
 | box g e cs'=>cases i<;>simp [setElem] at h;subst h;exact hc
 | map r c es=>simp [setElem] at h
 | bld v0 bs0 t0 e0 l0=>simp [setElem] at h
 | tup cs'=>cases i<;>simp [setElem] at h;subst h;exact hc
theorem Ba0 {cs:List T} (h:tidyC cs) {o:Nat} {c:T} (hc:tidy c):tidyC (cs.set o c):=by
 rw [tidyC_iff] at h ⊢;intro x hx;rcases List.mem_or_eq_of_mem_set hx with hx | rfl
 ·exact h x hx
 ·exact hc
theorem tidy_setP:∀ (ps:Path) {t t' x:T},tidy t->tidy x->t.setP ps x=some t'->tidy t'
 | [],t,t',x,_,hx,h=>by simp [setP] at h;subst h;exact hx
 | (i,o)::ps,t,t',x,ht,hx,h=>by
  simp only [setP] at h;cases hi:t.elem i with
  | none=>simp [hi] at h
  | some cs=>
   simp only [hi] at h;cases ho:cs[o]? with
   | none=>simp [ho] at h
   | some c=>
    simp only [ho] at h;cases hs:c.setP ps x with
    | none=>simp [hs] at h
    | some c'=>
     simp only [hs] at h;have hc:=tidy_elem ht hi;exact tidy_setElem ht (Ba0 hc (tidy_setP ps ((tidyC_iff cs).1 hc c (List.mem_of_getElem? ho)) hx hs)) h
theorem Avm {cs:List T} {o:Nat} {c:T} (h:cs[o]? = some c):∃ r,(blocks c++r).Perm (blocksC cs)/\∀ c',(blocks c'++r).Perm (blocksC (cs.set o c')):=by
 have ho:o<cs.length:=(List.getElem?_eq_some_iff.1 h).1;have hsplit:∀ c',cs.set o c'=cs.take o++c'::cs.drop (o+1):=fun c'=>by rw [List.set_eq_take_append_cons_drop,if_pos ho]
 have hcs:cs=cs.take o++c::cs.drop (o+1):=by
  have:=hsplit c;rw [Agz h] at this;exact this
 refine ⟨blocksC (cs.take o)++blocksC (cs.drop (o+1)),?_,fun c'=>?_⟩
 ·conv=>rhs;rw [hcs]
  rw [blocksC_append];simp only [blocksC];rw [← List.append_assoc,← List.append_assoc];exact List.Perm.append_right _ List.perm_append_comm
 ·rw [hsplit c',blocksC_append];simp only [blocksC];rw [← List.append_assoc,← List.append_assoc];exact List.Perm.append_right _ List.perm_append_comm
theorem blocksE_set {es:List (List T)} {i:Nat} {e:List T} (h:es[i]? = some e):∃ r,(blocksC e++r).Perm (blocksE es)/\∀ e',(blocksC e'++r).Perm (blocksE (es.set i e')):=by
 have ho:i<es.length:=(List.getElem?_eq_some_iff.1 h).1;have hsplit:∀ c',es.set i c'=es.take i++c'::es.drop (i+1):=fun c'=>by rw [List.set_eq_take_append_cons_drop,if_pos ho]
 have hcs:es=es.take i++e::es.drop (i+1):=by
  have:=hsplit e;rw [Agz h] at this;exact this
 refine ⟨blocksE (es.take i)++blocksE (es.drop (i+1)),?_,fun c'=>?_⟩
 ·conv=>rhs;rw [hcs]
  rw [blocksE_append];simp only [blocksE];rw [← List.append_assoc,← List.append_assoc];exact List.Perm.append_right _ List.perm_append_comm
 ·rw [hsplit c',blocksE_append];simp only [blocksE];rw [← List.append_assoc,← List.append_assoc];exact List.Perm.append_right _ List.perm_append_comm
theorem Bbc {cs:List T} {o:Nat} {c c':T} (h:cs[o]? = some c) (hv:val c'=val c):vals (cs.set o c')=vals cs:=by
 rw [vals_eq,vals_eq,List.map_set,hv];exact Agz (by rw [List.getElem?_map,h];rfl)
theorem Ba6 {es:List (List T)} {i:Nat} {e e':List T} (h:es[i]? = some e) (hv:vals e'=vals e):valsE (es.set i e')=valsE es:=by
 rw [valsE_eq,valsE_eq,List.flatMap_def,List.flatMap_def,List.map_set,hv];rw [Agz (by rw [List.getElem?_map,h];rfl)]
theorem Ars {t:T} {i:Nat} {cs:List T} (h:t.elem i=some cs):∃ r,(blocksC cs++r).Perm (blocks t) /\
  ∀ cs',vals cs'=vals cs->∃ t',t.setElem i cs'=some t'/\val t'=val t/\(blocksC cs'++r).Perm (blocks t'):=by
 cases t with
 | leaf d v=>simp [elem] at h
 | own g cap e sp es=>
  simp only [elem] at h;obtain ⟨r,hr1,hr2⟩:=blocksE_set h;refine ⟨(g,.cells (valsE es++sp).toArray e (0,0))::r,?_,fun cs' hv=>⟨_,rfl,by simp [val],?_⟩⟩
  ·simp only [blocks];exact List.perm_middle.trans (List.Perm.cons _ hr1)
  ·simp only [blocks,Ba6 h hv];exact List.perm_middle.trans (List.Perm.cons _ (hr2 cs'))
 | nil=>simp [elem] at h
 | agg cs'=>
  cases i<;>simp [elem] at h;subst h;exact ⟨[],by simp [blocks],fun cs2 hv=>⟨_,rfl,by simp [val,hv],by simp [blocks]⟩⟩
 | box g e cs'=>
  cases i<;>simp [elem] at h;subst h;refine ⟨[(g,.cells (vals cs').toArray e (0,0))],?_,fun cs2 hv=>⟨_,rfl,by simp [val],?_⟩⟩
  ·simp only [blocks];exact List.perm_append_comm.trans (by simp)
  ·simp only [blocks,hv];exact List.perm_append_comm.trans (by simp)
 | map r c es=>simp [elem] at h
 | bld v0 bs0 t0 e0 l0=>simp [elem] at h
 | tup cs'=>
  cases i<;>simp [elem] at h;subst h;exact ⟨[],by simp [blocks],fun cs2 hv=>⟨_,rfl,by simp [val,hv],by simp [blocks]⟩⟩
theorem focus:∀ (ps:Path) {t c:T},t.getP ps=some c->∃ r,(blocks c++r).Perm (blocks t) /\
  ∀ c',val c'=val c->∃ t',t.setP ps c'=some t'/\val t'=val t/\(blocks c'++r).Perm (blocks t')
 | [],t,c,h=>by
  simp only [getP,zJ] at h;subst h;exact ⟨[],by simp,fun c' hv=>⟨c',rfl,hv,by simp⟩⟩
 | (i,o)::ps,t,c,h=>by
  simp only [getP] at h;cases hi:t.elem i with
  | none=>simp [hi] at h
  | some cs=>
   simp only [hi] at h;cases ho:cs[o]? with
   | none=>simp [ho] at h
   | some c1=>
    simp only [ho] at h;obtain ⟨r1,hr1,hf⟩:=focus ps h;obtain ⟨r2,hr2,hs⟩:=Avm ho;obtain ⟨r3,hr3,he⟩:=Ars hi;refine ⟨r1++(r2++r3),?_,fun c' hv=>?_⟩
    ·rw [← List.append_assoc];refine (List.Perm.append_right _ hr1).trans ?_;rw [← List.append_assoc];exact (List.Perm.append_right _ hr2).trans hr3
    ·obtain ⟨c2,hc2,hv2,hp2⟩:=hf c' hv;obtain ⟨t',ht',hvt,hpt⟩:=he (cs.set o c2) (Bbc ho hv2);refine ⟨t',by simp only [setP,hi,ho,hc2];exact ht',hvt,?_⟩;rw [← List.append_assoc];refine (List.Perm.append_right _ hp2).trans ?_;rw [← List.append_assoc];exact (List.Perm.append_right _ (hs c2)).trans hpt
end T
end Go.Own
namespace Go.Own
open D
namespace T
def node:T->Bool
 | leaf (.sl _) _=>true
 | leaf (.ref _) _=>true
 | own ..=>true
 | nil=>true
 | box ..=>true
 | map ..=>true
 | bld ..=>true
 | _=>false
def kill1 (dead:Bool->Nat->Path->Bool):T->T
 | leaf d v=>leaf (D.kill1 dead d) v
 | t=>t
def kill2 (dead:Bool->Nat->Path->Bool):T->T
 | leaf d v=>leaf (D.kill2 dead d) v
 | agg cs=>agg (cs.map (kill1 dead))
 | t=>t
section
variable (dead:Bool->Nat->Path->Bool)
theorem val_kill1 (t:T):val (kill1 dead t)=val t:=by cases t<;>simp [kill1,val]
theorem val_kill2 (t:T):val (kill2 dead t)=val t:=by
 cases t<;>simp [kill2,val,vals_eq];intro a _;exact val_kill1 dead a
theorem blocks_kill1 (t:T):blocks (kill1 dead t)=blocks t:=by cases t<;>simp [kill1,blocks]
theorem blocks_kill2 (t:T):blocks (kill2 dead t)=blocks t:=by
 cases t<;>simp [kill2,blocks,blocksC_eq,List.flatMap_map,blocks_kill1]
theorem erase_kill1 (t:T):erase (kill1 dead t)=D.kill1 dead (erase t):=by
 cases t<;>simp [kill1,erase,D.kill1]
theorem erase_kill2 (t:T):erase (kill2 dead t)=D.kill2 dead (erase t):=by
 cases t<;>simp [kill2,erase,D.kill2,D.kill1,eraseC_eq];intro a _;exact erase_kill1 dead a
theorem kill1_kind (d:D):D.kill1 dead d=d∨(D.kill1 dead d=.undef/\d.pts1=true):=by
 cases d with
 | alias s' ps=>simp only [D.kill1];split<;>simp [D.pts1]
 | sub s' ps a b=>simp only [D.kill1];split<;>simp [D.pts1]
 | place s' ps a b=>simp only [D.kill1];split<;>simp [D.pts1]
 | _=>exact .inl rfl
theorem tidy_kill1 (t:T) (ht:tidy t):tidy (kill1 dead t):=by
 cases t with
 | leaf d v=>
  rcases kill1_kind dead d with h | ⟨h,_⟩<;>simp only [kill1,h]
  ·exact ht
  ·simp [tidy]
 | _=>exact ht
theorem tidy_kill2 (t:T) (ht:tidy t):tidy (kill2 dead t):=by
 cases t with
 | leaf d v=>
  simp only [kill2];cases d with
  | alias s' ps=>simp only [D.kill2,D.kill1];split<;>simp [tidy]
  | sub s' ps a b=>simp only [D.kill2,D.kill1];split<;>simp [tidy]
  | place s' ps a b=>simp only [D.kill2,D.kill1];split<;>simp [tidy]
  | _=>simpa [tidy,D.kill2,D.kill1] using ht
 | agg cs=>
  simp only [kill2,tidy,tidyC_iff] at ht ⊢;intro x hx;obtain ⟨y,hy,rfl⟩:=List.mem_map.1 hx;exact tidy_kill1 dead y (ht y hy)
 | _=>exact ht
theorem node_kill1 {t:T} (h:t.node=true):kill1 dead t=t:=by
 cases t with
 | leaf d v=>cases d<;>simp_all [node,kill1,D.kill1]
 | _=>simp [kill1]
theorem getP_kill2 {t x:T} {ps:Path} (h:t.getP ps=some x) (hx:x.node=true):(kill2 dead t).getP ps=some x:=by
 cases t with
 | leaf d v=>
  cases ps with
  | nil=>
   simp only [getP,zJ] at h;subst h;cases d<;>simp_all [node,kill2,D.kill2,D.kill1,getP]
  | cons p ps=>simp [getP,elem] at h
 | agg cs=>
  cases ps with
  | nil=>simp only [getP,zJ] at h;subst h;simp [node] at hx
  | cons p ps=>
   obtain ⟨i,o⟩:=p;cases i with
   | succ i=>simp [getP,elem] at h
   | zero=>
    simp only [getP,elem,kill2,List.getElem?_map] at h ⊢;cases ho:cs[o]? with
    | none=>simp [ho] at h
    | some c=>
     simp only [ho,Option.map_some] at h ⊢;cases c with
     | leaf d v=>
      cases ps with
      | nil=>
       simp only [getP,zJ] at h ⊢;subst h;exact node_kill1 dead hx
      | cons p ps=>simp [getP,elem] at h
     | _=>simpa [kill1] using h
 | _=>simpa [kill2] using h
end
end T
abbrev FT:=List (Nat×T)
def noT:T:=.leaf .undef Go.undef
def Aaa:FT->Nat->Option T
 | [],_=>none
 | (k,t)::r,s=>if k=s then some t else Aaa r s
def getT (G:FT) (s:Nat):T:=(Aaa G s).getD noT
def Aa7:FT->Nat->T->FT
 | [],s,t=>[(s,t)]
 | (k,e)::r,s,t=>if k=s then (s,t)::r else (k,e)::Aa7 r s t
def Ai1 (f:T->T) (G:FT):FT:=G.map fun x=>(x.1,f x.2)
def Acd (G:FT):Fr:=G.map fun x=>(x.1,x.2.erase)
def Aa0 (G:FT):List (Nat×Obj):=G.flatMap fun x=>x.2.blocks
theorem Az9 (G:FT) (s:Nat):get (Acd G) s=(getT G s).erase:=by
 induction G with
 | nil=>simp [Acd,get,getT,Aaa,noT,T.erase]
 | cons x r ih=>
  simp only [Acd,List.map_cons,get,getT,Aaa]
  split
  ·rfl
  ·exact ih
theorem All (G:FT) (s:Nat) (t:T):put0 (Acd G) s t.erase=Acd (Aa7 G s t):=by
 induction G with
 | nil=>simp [Acd,put0,Aa7]
 | cons x r ih=>
  simp only [Acd,List.map_cons,put0,Aa7]
  split
  ·simp
  ·simp only [List.map_cons,List.cons.injEq,true_and];exact ih
theorem Acr (G:FT) (s:Nat) (t:T):Aaa (Aa7 G s t) s=some t:=by
 induction G with
 | nil=>simp [Aa7,Aaa]
 | cons x r ih=>
  simp only [Aa7]
  split
  ·simp [Aaa]
  ·rename_i h;simp [Aaa,h,ih]
theorem Ach (G:FT) {s s':Nat} (t:T) (h:s'≠s):Aaa (Aa7 G s t) s'=Aaa G s':=by
 induction G with
 | nil=>simp [Aa7,Aaa,Ne.symm h]
 | cons x r ih=>
  simp only [Aa7]
  split
  ·rename_i hk;subst hk;simp [Aaa,Ne.symm h]
  ·simp only [Aaa];split<;>simp_all
theorem Abr (G:FT) (s:Nat) (t:T):getT (Aa7 G s t) s=t:=by simp [getT,Acr]
theorem Aaq (G:FT) {s s':Nat} (t:T) (h:s'≠s):getT (Aa7 G s t) s'=getT G s':=by simp [getT,Ach G t h]
theorem Asj (f:T->T) (G:FT) (s:Nat):Aaa (Ai1 f G) s=(Aaa G s).map f:=by
 induction G with
 | nil=>simp [Ai1,Aaa]
 | cons x r ih=>
  simp only [Ai1,List.map_cons,Aaa]
  split
  ·rfl
  ·exact ih
theorem Bau (f:T->T) (G:FT) (s:Nat) (h:f noT=noT):getT (Ai1 f G) s=f (getT G s):=by
 simp only [getT,Asj];cases Aaa G s<;>simp [h]
theorem Avn (f:T->T) (h:∀ t,(f t).blocks=t.blocks) (G:FT):Aa0 (Ai1 f G)=Aa0 G:=by
 simp [Aa0,Ai1,List.flatMap_map,h]
theorem Ad6 (G:FT) (s:Nat):∃ r,((getT G s).blocks++r).Perm (Aa0 G)/\∀ t,(t.blocks++r).Perm (Aa0 (Aa7 G s t)):=by
 induction G with
 | nil=>exact ⟨[],by simp [getT,Aaa,noT,T.blocks,Aa0],fun t=>by simp [Aa7,Aa0]⟩
 | cons x r ih=>
  obtain ⟨k,e⟩:=x;by_cases hk:k=s
  ·subst hk;exact ⟨Aa0 r,by simp [getT,Aaa,Aa0],fun t=>by simp [Aa7,Aa0]⟩
  ·obtain ⟨q,h1,h2⟩:=ih;have hg:getT ((k,e)::r) s=getT r s:=by simp [getT,Aaa,hk]
   refine ⟨e.blocks++q,?_,fun t=>?_⟩
   ·rw [hg,← List.append_assoc];simp only [Aa0,List.flatMap_cons];refine (List.Perm.append_right _ List.perm_append_comm).trans ?_;rw [List.append_assoc];exact List.Perm.append_left _ h1
   ·have:Aa7 ((k,e)::r) s t=(k,e)::Aa7 r s t:=by simp [Aa7,hk]
    rw [this,← List.append_assoc];simp only [Aa0,List.flatMap_cons];refine (List.Perm.append_right _ List.perm_append_comm).trans ?_;rw [List.append_assoc];exact List.Perm.append_left _ (h2 t)
structure BlkOK (M:Mem) (w:World) (B:List (Nat×Obj)):Prop where
 nodup:(B.map (·.1)).Nodup
 heap:∀ x∈B,w.heap[x.1]? = some x.2
 apart:∀ x∈B,M x.1=none
def Aar (M:Mem) (w:World):Prop:=∀ g o,M g=some o->w.heap[g]? = some o
theorem BlkOK.perm {M:Mem} {w:World} {B B':List (Nat×Obj)} (h:BlkOK M w B) (p:B.Perm B'):BlkOK M w B':=
 ⟨(p.map _).nodup_iff.1 h.nodup,fun x hx=>h.heap x (p.mem_iff.2 hx),fun x hx=>h.apart x (p.mem_iff.2 hx)⟩
theorem BlkOK.left {M:Mem} {w:World} {A B:List (Nat×Obj)} (h:BlkOK M w (A++B)):BlkOK M w A:=
 ⟨by have:=h.nodup;rw [List.map_append,List.nodup_append] at this;exact this.1,fun x hx=>h.heap x (by simp [hx]),fun x hx=>h.apart x (by simp [hx])⟩
theorem BlkOK.right {M:Mem} {w:World} {A B:List (Nat×Obj)} (h:BlkOK M w (A++B)):BlkOK M w B:=
 ⟨by have:=h.nodup;rw [List.map_append,List.nodup_append] at this;exact this.2.1,fun x hx=>h.heap x (by simp [hx]),fun x hx=>h.apart x (by simp [hx])⟩
theorem BlkOK.nil (M:Mem) (w:World):BlkOK M w []:=⟨by simp,by simp,by simp⟩
theorem BlkOK.lt {M:Mem} {w:World} {B:List (Nat×Obj)} (h:BlkOK M w B) {x:Nat×Obj} (hx:x∈B):x.1<w.heap.size:=(Array.getElem?_eq_some_iff.1 (h.heap x hx)).1
theorem Aar.lt {M:Mem} {w:World} (h:Aar M w) {g:Nat} {o:Obj} (hg:M g=some o):g<w.heap.size:=(Array.getElem?_eq_some_iff.1 (h g o hg)).1
structure Evo (M:Mem) (B:List Nat) (w:World) (M':Mem) (B':List Nat) (w':World):Prop where
 os:w'.os=w.os
 tape:w'.tape=w.tape
 output:w'.output=w.output
 size:w.heap.size<=w'.heap.size
 out:∀ g,g<w.heap.size->g ∉ B->w'.heap[g]? = w.heap[g]?
 memle:M.le M'
 memnew:∀ g o,M' g=some o->M g=some o∨g∈B∨w.heap.size<=g
 own:∀ g∈B',g∈B∨w.heap.size<=g
theorem Evo.refl (M:Mem) (B:List Nat) (w:World):Evo M B w M B w:=
 ⟨rfl,rfl,rfl,Nat.le_refl _,fun _ _ _=>rfl,Mem.le_refl M,fun _ _ h=>.inl h,fun _ h=>.inl h⟩
theorem Evo.trans {M M1 M2:Mem} {B B1 B2:List Nat} {w w1 w2:World} (h:Evo M B w M1 B1 w1) (k:Evo M1 B1 w1 M2 B2 w2):Evo M B w M2 B2 w2 where
 os:=k.os.trans h.os
 tape:=k.tape.trans h.tape
 output:=k.output.trans h.output
 size:=Nat.le_trans h.size k.size
 out g hg hB:=by
  rw [k.out g (Nat.lt_of_lt_of_le hg h.size) (fun hb=>by rcases h.own g hb with h1 | h1;exact hB h1;omega)];exact h.out g hg hB
 memle:=Mem.le_trans h.memle k.memle
 memnew g o hg:=by
  rcases k.memnew g o hg with h1 | h1 | h1
  ·exact h.memnew g o h1
  ·rcases h.own g h1 with h2 | h2
   ·exact .inr (.inl h2)
   ·exact .inr (.inr h2)
  ·exact .inr (.inr (Nat.le_trans h.size h1))
 own g hg:=by
  rcases k.own g hg with h1 | h1
  ·exact h.own g h1
  ·exact .inr (Nat.le_trans h.size h1)
theorem Evo.weaken {M M':Mem} {B B1 B':List Nat} {w w':World} (h:Evo M B w M' B' w') (hB:∀ g∈B1,g∈B'):Evo M B w M' B1 w':=
 {h with own:=fun g hg=>h.own g (hB g hg) }
end Go.Own
namespace Go.Own
open D
namespace T
def like:T->T->Prop
 | leaf d v,y=>y=leaf d v
 | own g cap _ _ es,y=>∃ e' sp' es',y=own g cap e' sp' es'/\es'.map List.length=es.map List.length
 | nil,y=>y=nil
 | agg _,_=>False
 | box g _ _,y=>∃ e' cs',y=box g e' cs'
 | map r _ _,y=>∃ c' es',y=map r c' es'
 | bld v _ _ _ _,y=>∃ bs' t' e' l',y=bld v bs' t' e' l'
 | tup _,_=>False
theorem like_refl {x:T} (h:x.node=true):like x x:=by
 cases x with
 | own g cap e sp es=>exact ⟨_,_,_,rfl,rfl⟩
 | agg=>simp [node] at h
 | tup=>simp [node] at h
 | leaf=>rfl
 | nil=>rfl
 | box=>exact ⟨_,_,rfl⟩
 | map=>exact ⟨_,_,rfl⟩
 | bld=>exact ⟨_,_,_,_,rfl⟩
theorem like_node {x y:T} (h:like x y) (hx:x.node=true):y.node=true:=by
 cases x<;>simp only [like] at h
 case leaf=>subst h;exact hx
 case own=>obtain ⟨_,_,_,rfl,_⟩:=h;rfl
 case nil=>subst h;rfl
 case box=>obtain ⟨_,_,rfl⟩:=h;rfl
 case map=>obtain ⟨_,_,rfl⟩:=h;rfl
 case bld=>obtain ⟨_,_,_,_,rfl⟩:=h;rfl
theorem like_val {x y:T} (h:like x y):y.val=x.val:=by
 cases x<;>simp only [like] at h
 case leaf=>subst h;rfl
 case own=>
  obtain ⟨_,_,es',rfl,h2⟩:=h;have:=congrArg List.length h2;simp only [List.length_map] at this;simp [val,this]
 case nil=>subst h;rfl
 case box=>obtain ⟨_,_,rfl⟩:=h;rfl
 case map=>obtain ⟨_,_,rfl⟩:=h;rfl
 case bld=>obtain ⟨_,_,_,_,rfl⟩:=h;rfl
theorem setElem_like {t t':T} {i:Nat} {cs cs':List T} (h:t.elem i=some cs) (hl:cs'.length=cs.length) (h':t.setElem i cs'=some t') (hn:t.node=true):like t t':=by
 cases t with
 | leaf d v=>simp [elem] at h
 | own g cap e sp es=>
  simp only [setElem,zJ] at h';simp only [elem] at h;subst h';refine ⟨e,sp,_,rfl,?_⟩;rw [List.map_set,hl];exact Agz (by rw [List.getElem?_map,h];rfl)
 | nil=>simp [elem] at h
 | agg cs'=>simp [node] at hn
 | box g e cs'=>cases i<;>simp [setElem] at h';subst h';exact ⟨_,_,rfl⟩
 | map r c es=>simp [elem] at h
 | bld v0 bs0 t0 e0 l0=>simp [elem] at h
 | tup cs'=>simp [node] at hn
theorem elem_setElem {t t':T} {i:Nat} {cs cs':List T} (h:t.elem i=some cs) (h':t.setElem i cs'=some t') (k:Nat):t'.elem k=if k=i then some cs' else t.elem k:=by
 cases t with
 | leaf d v=>simp [elem] at h
 | own g cap e sp es=>
  simp only [setElem,zJ] at h';subst h';simp only [elem] at h ⊢;obtain ⟨hi,_⟩:=List.getElem?_eq_some_iff.1 h;rw [List.getElem?_set];by_cases hk:i=k
  ·subst hk;simp [hi]
  ·simp [hk,Ne.symm hk]
 | nil=>simp [elem] at h
 | agg cs0=>cases i with
  | zero=>simp only [setElem,zJ] at h';subst h';cases k<;>simp [elem]
  | succ i=>simp [elem] at h
 | box g e cs0=>cases i with
  | zero=>simp only [setElem,zJ] at h';subst h';cases k<;>simp [elem]
  | succ i=>simp [elem] at h
 | map r c es=>simp [elem] at h
 | bld v0 bs0 t0 e0 l0=>simp [elem] at h
 | tup cs0=>cases i with
  | zero=>simp only [setElem,zJ] at h';subst h';cases k<;>simp [elem]
  | succ i=>simp [elem] at h
theorem getP_setP_other:∀ (ps:Path) {t x x' t':T},t.getP ps=some x->t.setP ps x'=some t'->∀ (p:Path) (y:T),pre ps p=false->t.getP p=some y->y.node=true->∃ y',t'.getP p=some y'/\like y y'
 | [],t,x,x',t',_,_,p,y,hp,_,_=>by simp [pre] at hp
 | (i,o)::ps,t,x,x',t',hx,hs,p,y,hp,hy,hn=>by
  simp only [getP] at hx;simp only [setP] at hs;cases hi:t.elem i with
  | none=>simp [hi] at hx
  | some cs=>
   simp only [hi] at hx hs;cases ho:cs[o]? with
   | none=>simp [ho] at hx
   | some c=>
    simp only [ho] at hx hs;cases hc:c.setP ps x' with
    | none=>simp [hc] at hs
    | some c'=>
     simp only [hc] at hs;have hel:=elem_setElem hi hs;cases p with
     | nil=>
      simp only [getP,zJ] at hy ⊢;subst hy;exact ⟨t',rfl,setElem_like hi (by simp) hs hn⟩
     | cons q p=>
      obtain ⟨k,m⟩:=q;simp only [getP] at hy ⊢;rw [hel k];by_cases hk:k=i
      ·subst hk;simp only [hi] at hy;simp only [if_true];by_cases hm:m=o
       ·subst hm;simp only [ho] at hy;have hm':m<cs.length:=(List.getElem?_eq_some_iff.1 ho).1;simp only [List.getElem?_set_self hm'];exact getP_setP_other ps hx hc p y (by simpa [pre] using hp) hy hn
       ·rw [List.getElem?_set_ne (Ne.symm hm)];cases hcm:cs[m]? with
        | none=>simp [hcm] at hy
        | some c2=>simp only [hcm] at hy ⊢;exact ⟨y,hy,like_refl hn⟩
      ·simp only [hk,if_false];exact ⟨y,hy,like_refl hn⟩
theorem getP_setP_below:∀ (ps:Path) {t x x' t':T},t.getP ps=some x->t.setP ps x'=some t'->∀ r,t'.getP (ps++r)=x'.getP r
 | [],t,x,x',t',_,hs,r=>by simp only [setP,zJ] at hs;subst hs;rfl
 | (i,o)::ps,t,x,x',t',hx,hs,r=>by
  simp only [getP] at hx;simp only [setP] at hs;cases hi:t.elem i with
  | none=>simp [hi] at hx
  | some cs=>
   simp only [hi] at hx hs;cases ho:cs[o]? with
   | none=>simp [ho] at hx
   | some c=>
    simp only [ho] at hx hs;cases hc:c.setP ps x' with
    | none=>simp [hc] at hs
    | some c'=>
     simp only [hc] at hs;have hm':o<cs.length:=(List.getElem?_eq_some_iff.1 ho).1;simp only [List.cons_append,getP,elem_setElem hi hs i,if_true,List.getElem?_set_self hm'];exact getP_setP_below ps hx hc r
theorem getP_below:∀ (ps:Path) {t x:T},t.getP ps=some x->∀ r,t.getP (ps++r)=x.getP r
 | [],t,x,hx,r=>by simp only [getP,zJ] at hx;subst hx;rfl
 | (i,o)::ps,t,x,hx,r=>by
  simp only [getP] at hx;cases hi:t.elem i with
  | none=>simp [hi] at hx
  | some cs=>
   simp only [hi] at hx;cases ho:cs[o]? with
   | none=>simp [ho] at hx
   | some c=>
    simp only [ho] at hx;simp only [List.cons_append,getP,hi,ho];exact getP_below ps hx r
end T
theorem Ay0 (ps r:Path):pre ps (ps++r)=true:=by
 induction ps with
 | nil=>rfl
 | cons p ps ih=>obtain ⟨a,b⟩:=p;simp [pre,ih]
theorem Ag8:∀ (ps p:Path),pre ps p=true↔∃ r,p=ps++r
 | [],p=>by simp [pre]
 | (a,b)::ps,[]=>by simp [pre]
 | (a,b)::ps,(c,d)::p=>by
  simp only [pre,Bool.and_eq_true,beq_iff_eq,Ag8 ps p,List.cons_append,List.cons.injEq,Prod.mk.injEq];constructor
  ·rintro ⟨⟨rfl,rfl⟩,r,rfl⟩;exact ⟨r,⟨rfl,rfl⟩,rfl⟩
  ·rintro ⟨r,⟨rfl,rfl⟩,rfl⟩;exact ⟨⟨rfl,rfl⟩,r,rfl⟩
def Akz (x:T) (off len:Nat) (v:Value):Prop:=
 ∃ A n c k es A',x.val=.slice A n c/\(x.erase=.own es∨x.erase=.sl es)/\es.length=n/\(∀ e∈es,e.length=k)/\off+len<=n/\n<=c/\v=.slice A' len (c-off)/\(A'=A.map (·.add (off*k))∨(off=c/\0<off))
def Ag2 (x:T) (i o:Nat) (v:Value):Prop:=
 (∃ g cap e sp es k,x=.own g cap e sp es/\i<es.length/\(∀ y∈es,y.length=k)/\v=.pointer (some ⟨g,i*k+o,none⟩)) ∨
 (∃ g e cs,x=.box g e cs/\i=0/\v=.pointer (some ⟨g,o,none⟩))
def L1 (M:Mem) (G:FT):D->Value->Prop
 | .undef,_=>True
 | .alias s ps,v=>∃ x,(getT G s).getP ps=some x/\x.node=true/\v=x.val
 | .sub s ps off len,v=>∃ x,(getT G s).getP ps=some x/\x.node=true/\Akz x off len v
 | .place s ps i o,v=>∃ x,(getT G s).getP ps=some x/\x.node=true/\Ag2 x i o v
 | d,v=>RI M d v
inductive All2 {α β:Type} (R:α->β->Prop):List α->List β->Prop
 | nil:All2 R [] []
 | cons {a b ags bs}:R a b->All2 R ags bs->All2 R (a::ags) (b::bs)
def LOK (M:Mem) (G:FT):D->Value->Prop
 | .fn f cs,v=>∃ vs,v=.func (.func f) #[] vs.toArray/\All2 (L1 M G) cs vs
 | d,v=>L1 M G d v
theorem Bgo {es es':List (List T)} (h:es'.map List.length=es.map List.length) {k:Nat} (hk:∀ e∈T.eraseE es,e.length=k):∀ e∈T.eraseE es',e.length=k:=by
 intro e he;rw [T.eraseE_eq] at he hk;obtain ⟨y,hy,rfl⟩:=List.mem_map.1 he;have:y.length∈es'.map List.length:=List.mem_map.2 ⟨y,hy,rfl⟩;rw [h] at this;obtain ⟨z,hz,hzl⟩:=List.mem_map.1 this;have:=hk (z.map T.erase) (List.mem_map.2 ⟨z,hz,rfl⟩);simp only [List.length_map] at this ⊢;omega
theorem Akz.like {x y:T} (h:T.like x y) {off len:Nat} {v:Value} (k:Akz x off len v):Akz y off len v:=by
 obtain ⟨A,n,c,w,es,A',h1,h2,h3,h4,h5⟩:=k;cases x<;>simp only [T.like] at h
 case leaf=>subst h;exact ⟨A,n,c,w,es,A',h1,h2,h3,h4,h5⟩
 case own g cap e sp xs=>
  have hv:=T.like_val (x:=.own g cap e sp xs) (y:=y) h;obtain ⟨e',sp',es',rfl,hl⟩:=h;simp only [T.erase,D.own.injEq,reduceCtorEq,or_false] at h2;subst h2;refine ⟨A,n,c,w,T.eraseE es',A',hv.trans h1,.inl rfl,?_,Bgo hl h4,h5⟩;have:=congrArg List.length hl;simp only [List.length_map] at this;simpa [this] using h3
 case nil=>subst h;exact ⟨A,n,c,w,es,A',h1,h2,h3,h4,h5⟩
 case box=>simp [T.erase] at h2
 case map=>simp [T.erase] at h2
 case bld=>simp [T.erase] at h2
theorem Ag2.like {x y:T} (h:T.like x y) {i o:Nat} {v:Value} (k:Ag2 x i o v):Ag2 y i o v:=by
 rcases k with ⟨g,cap,e,sp,es,k,rfl,h2,h3,h4⟩ | ⟨g,e,cs,rfl,h2,h3⟩
 ·obtain ⟨e',sp',es',rfl,hl⟩:=h;refine .inl ⟨g,cap,e',sp',es',k,rfl,?_,?_,h4⟩
  ·have:=congrArg List.length hl;simp only [List.length_map] at this;omega
  ·intro y hy;have:y.length∈es'.map List.length:=List.mem_map.2 ⟨y,hy,rfl⟩;rw [hl] at this;obtain ⟨z,hz,hzl⟩:=List.mem_map.1 this;rw [← hzl];exact h3 z hz
 ·obtain ⟨e',cs',rfl⟩:=h;exact .inr ⟨g,e',cs',rfl,h2,h3⟩
def Adi (G G':FT) (dead:Bool->Nat->Path->Bool):Prop:=
 ∀ s p x,(getT G s).getP p=some x->x.node=true ->
  (dead true s p=false->∃ x',(getT G' s).getP p=some x'/\x'.node=true/\x'.val=x.val) /\
  (dead false s p=false->∃ x',(getT G' s).getP p=some x'/\T.like x x')
def Ae9 (G G':FT):Prop:=
 ∀ s' p x,(getT G s').getP p=some x->x.node=true->∃ x',(getT G' s').getP p=some x'/\T.like x x'
theorem Ae9.keeps {G G':FT} (h:Ae9 G G') (dead:Bool->Nat->Path->Bool):Adi G G' dead:=fun s p x hx hn=>
 let ⟨x',h1,h2⟩:=h s p x hx hn
 ⟨fun _=>⟨x',h1,T.like_node h2 hn,T.like_val h2⟩,fun _=>⟨x',h1,h2⟩⟩
theorem Ai5 {M M':Mem} (hM:M.le M') {G G':FT} {dead:Bool->Nat->Path->Bool} (h:Adi G G' dead) {d:D} {v:Value} (k:L1 M G d v):L1 M' G' (D.kill1 dead d) v:=by
 cases d with
 | alias s' ps=>
  simp only [D.kill1];split
  ·simp [L1]
  ·rename_i hn;obtain ⟨x,h1,h2,h3⟩:=k;obtain ⟨x',h4,h5,h6⟩:=(h s' ps x h1 h2).1 (by simpa using hn);exact ⟨x',h4,h5,h3.trans h6.symm⟩
 | sub s' ps a b=>
  simp only [D.kill1];split
  ·simp [L1]
  ·rename_i hn;obtain ⟨x,h1,h2,h3⟩:=k;obtain ⟨x',h4,h5⟩:=(h s' ps x h1 h2).2 (by simpa using hn);exact ⟨x',h4,T.like_node h5 h2,h3.like h5⟩
 | place s' ps a b=>
  simp only [D.kill1];split
  ·simp [L1]
  ·rename_i hn;obtain ⟨x,h1,h2,h3⟩:=k;obtain ⟨x',h4,h5⟩:=(h s' ps x h1 h2).2 (by simpa using hn);exact ⟨x',h4,T.like_node h5 h2,h3.like h5⟩
 | undef=>simp [D.kill1,L1]
 | _=>simp only [L1,D.kill1] at k ⊢;exact RI.mono hM _ _ k
theorem Ar8 {M M':Mem} (hM:M.le M') {G G':FT} (h:Ae9 G G') {d:D} {v:Value} (k:L1 M G d v):L1 M' G' d v:=by
 cases d with
 | alias s' ps=>
  obtain ⟨x,h1,h2,h3⟩:=k;obtain ⟨x',h4,h5⟩:=h s' ps x h1 h2;exact ⟨x',h4,T.like_node h5 h2,h3.trans (T.like_val h5).symm⟩
 | sub s' ps a b=>
  obtain ⟨x,h1,h2,h3⟩:=k;obtain ⟨x',h4,h5⟩:=h s' ps x h1 h2;exact ⟨x',h4,T.like_node h5 h2,h3.like h5⟩
 | place s' ps a b=>
  obtain ⟨x,h1,h2,h3⟩:=k;obtain ⟨x',h4,h5⟩:=h s' ps x h1 h2;exact ⟨x',h4,T.like_node h5 h2,h3.like h5⟩
 | undef=>simp [L1]
 | _=>simp only [L1] at k ⊢;exact RI.mono hM _ _ k
theorem Ba9 {M M':Mem} (hM:M.le M') {G G':FT} {dead:Bool->Nat->Path->Bool} (h:Adi G G' dead) {ds:List D} {vs:List Value} (k:All2 (L1 M G) ds vs):All2 (L1 M' G') (ds.map (D.kill1 dead)) vs:=by
 induction k with
 | nil=>exact .nil
 | cons a _ ih=>exact .cons (Ai5 hM h a) ih
theorem Ba8 {M M':Mem} (hM:M.le M') {G G':FT} (h:Ae9 G G') {ds:List D} {vs:List Value} (k:All2 (L1 M G) ds vs):All2 (L1 M' G') ds vs:=by
 induction k with
 | nil=>exact .nil
 | cons a _ ih=>exact .cons (Ar8 hM h a) ih
theorem Baa {M M':Mem} (hM:M.le M') {G G':FT} (h:Ae9 G G') {d:D} {v:Value} (k:LOK M G d v):LOK M' G' d v:=by
 cases d with
 | fn f cs=>
  obtain ⟨vs,h1,h2⟩:=k;exact ⟨vs,h1,Ba8 hM h h2⟩
 | _=>simp only [LOK] at k ⊢;exact Ar8 hM h k
theorem Bab {M M':Mem} (hM:M.le M') {G G':FT} {dead:Bool->Nat->Path->Bool} (h:Adi G G' dead) {d:D} {v:Value} (k:LOK M G d v):LOK M' G' (D.kill2 dead d) v:=by
 cases d with
 | fn f cs=>
  obtain ⟨vs,h1,h2⟩:=k;exact ⟨vs,h1,Ba9 hM h h2⟩
 | agg cs=>simp [LOK,L1,RI] at k
 | alias s' ps=>
  have:=Ai5 hM h (d:=.alias s' ps) k;simp only [D.kill2];simp only [D.kill1] at this ⊢
  split at this<;>rename_i hc<;>simp only [hc,if_true,if_false]<;>exact this
 | sub s' ps a b=>
  have:=Ai5 hM h (d:=.sub s' ps a b) k;simp only [D.kill2];simp only [D.kill1] at this ⊢
  split at this<;>rename_i hc<;>simp only [hc,if_true,if_false]<;>exact this
 | place s' ps a b=>
  have:=Ai5 hM h (d:=.place s' ps a b) k;simp only [D.kill2];simp only [D.kill1] at this ⊢
  split at this<;>rename_i hc<;>simp only [hc,if_true,if_false]<;>exact this
 | _=>simp only [LOK,D.kill2,D.kill1] at k ⊢;exact Ai5 hM h k
def Ac8 (M:Mem) (G:FT):T->Prop
 | .leaf d v=>L1 M G d v/\v.oneCell'=true
 | t=>T.wf M t
def Ahb (M:Mem):T->Prop
 | .leaf d v=>d=.undef∨RI M d v
 | .agg cs=>T.wfC M cs
 | t=>T.wf M t
def Aao (M:Mem) (G:FT):T->Prop
 | .leaf d v=>LOK M G d v
 | .agg cs=>∀ c∈cs,Ac8 M G c
 | .tup ds=>∀ c∈ds,Ahb M c
 | t=>T.wf M t
mutual
theorem Ah2 {M M':Mem} (h:M.le M'):∀ t,T.wf M t->T.wf M' t
 | .leaf d v,k=>by
  simp only [T.wf] at k ⊢;rcases k with k | k
  ·exact .inl k
  ·exact .inr (RI.mono h d v k)
 | .own g cap e sp es,k=>by
  simp only [T.wf] at k ⊢;exact ⟨k.1,k.2.1,k.2.2.1,k.2.2.2.1,wfE_mono h es k.2.2.2.2⟩
 | .nil,_=>by simp [T.wf]
 | .agg _,k=>by simp [T.wf] at k
 | .box _ _ cs,k=>by simp only [T.wf] at k ⊢;exact wfC_mono h cs k
 | .bld _ _ _ _ _,k=>by simp only [T.wf] at k ⊢;exact k
 | .map _ _ es,k=>by
  simp only [T.wf] at k ⊢;intro x hx;obtain ⟨h1,h2⟩:=k x hx;refine ⟨h1,?_⟩;generalize x.2.2.1=d at h2 ⊢;cases d with
  | agg cs=>obtain ⟨vs,h3,h4⟩:=h2;exact ⟨vs,h3,RCs.mono h _ _ h4⟩
  | own es=>cases es with
   | nil=>exact h2
   | cons=>simp [T.wfV,RI] at h2
  | _=>exact RI.mono h _ _ h2
 | .tup _,k=>by simp [T.wf] at k
theorem wfC_mono {M M':Mem} (h:M.le M'):∀ ts,T.wfC M ts->T.wfC M' ts
 | [],_=>by simp [T.wfC]
 | t::ts,k=>by simp only [T.wfC] at k ⊢;exact ⟨Ah2 h t k.1,wfC_mono h ts k.2⟩
theorem wfE_mono {M M':Mem} (h:M.le M'):∀ es,T.wfE M es->T.wfE M' es
 | [],_=>by simp [T.wfE]
 | e::es,k=>by simp only [T.wfE] at k ⊢;exact ⟨wfC_mono h e k.1,wfE_mono h es k.2⟩
end
theorem CellOK_keep {M M':Mem} (hM:M.le M') {G G':FT} (h:Ae9 G G') {t:T} (k:Ac8 M G t):Ac8 M' G' t:=by
 cases t with
 | leaf d v=>exact ⟨Ar8 hM h k.1,k.2⟩
 | _=>exact Ah2 hM _ k
theorem CellOK_kill {M M':Mem} (hM:M.le M') {G G':FT} {dead:Bool->Nat->Path->Bool} (h:Adi G G' dead) {t:T} (k:Ac8 M G t):Ac8 M' G' (T.kill1 dead t):=by
 cases t with
 | leaf d v=>exact ⟨Ai5 hM h k.1,k.2⟩
 | _=>exact Ah2 hM _ k
theorem CompOK_mono {M M':Mem} (hM:M.le M') {t:T} (k:Ahb M t):Ahb M' t:=by
 cases t with
 | leaf d v=>exact k.imp id (RI.mono hM _ _)
 | agg cs=>exact wfC_mono hM _ k
 | _=>exact Ah2 hM _ k
theorem SlotOK_keep {M M':Mem} (hM:M.le M') {G G':FT} (h:Ae9 G G') {t:T} (k:Aao M G t):Aao M' G' t:=by
 cases t with
 | leaf d v=>exact Baa hM h k
 | agg cs=>exact fun c hc=>CellOK_keep hM h (k c hc)
 | tup ds=>
  intro c hc;exact CompOK_mono hM (k c hc)
 | _=>exact Ah2 hM _ k
theorem SlotOK_kill {M M':Mem} (hM:M.le M') {G G':FT} {dead:Bool->Nat->Path->Bool} (h:Adi G G' dead) {t:T} (k:Aao M G t):Aao M' G' (T.kill2 dead t):=by
 cases t with
 | leaf d v=>exact Bab hM h k
 | agg cs=>
  intro c hc;obtain ⟨y,hy,rfl⟩:=List.mem_map.1 hc;exact CellOK_kill hM h (k y hy)
 | tup ds=>
  intro c hc;exact CompOK_mono hM (k c hc)
 | _=>exact Ah2 hM _ k
end Go.Own
namespace Go.Own
open D
abbrev Blks:=List (Nat×Obj)
def Sub (B' B:Blks):Prop:=∀ g∈B'.map Prod.fst,g∈B.map Prod.fst
theorem Sub.refl (B:Blks):Sub B B:=fun _ h=>h
theorem Sub.trans {A B C:Blks} (h:Sub A B) (k:Sub B C):Sub A C:=fun g hg=>k g (h g hg)
theorem Sub.of_perm {A B:Blks} (h:A.Perm B):Sub A B:=fun _ hg=>(h.map Prod.fst).mem_iff.1 hg
theorem Sub.of_subset {A B:Blks} (h:∀ x∈A,x∈B):Sub A B:=by
 intro g hg;obtain ⟨x,hx,rfl⟩:=List.mem_map.1 hg;exact List.mem_map.2 ⟨x,h x hx,rfl⟩
structure Inv (n:Nat) (R:Nat->Value) (M:Mem) (F:Fr) (G:FT) (H:Blks) (a:Act) (w:World):Prop where
 er:Acd G=F
 size:a.tmps.size=n
 defers:a.defers=[]
 vals:∀ s t,Aaa G s=some t->if s<n then a.tmps[s]? = some t.val else R s=t.val
 tidy:∀ s t,Aaa G s=some t->t.tidy
 ok:∀ s t,Aaa G s=some t->Aao M G t
 blk:BlkOK M w (Aa0 G++H)
 mem:Aar M w
section
variable {n:Nat} {R:Nat->Value} {M:Mem} {F:Fr} {G:FT} {H:Blks} {a:Act} {w:World}
theorem Agc (G:FT) (s:Nat):Aaa G s=some (getT G s)∨(Aaa G s=none/\getT G s=noT):=by
 cases h:Aaa G s<;>simp [getT,h]
theorem Inv.get (h:Inv n R M F G H a w) (s:Nat):get F s=(getT G s).erase:=by rw [← h.er];exact Az9 G s
theorem Inv.tidyG (h:Inv n R M F G H a w) (s:Nat):(getT G s).tidy:=by
 rcases Agc G s with k | ⟨_,k⟩
 ·exact h.tidy s _ k
 ·rw [k];simp [noT,T.tidy]
theorem Inv.okG (h:Inv n R M F G H a w) (s:Nat):Aao M G (getT G s):=by
 rcases Agc G s with k | ⟨_,k⟩
 ·exact h.ok s _ k
 ·rw [k];simp [noT,Aao,LOK,L1]
theorem Inv.getAt (h:Inv n R M F G H a w) (s:Nat) (ps:Path):Own.getAt F s ps=((getT G s).getP ps).map T.erase:=by
 rw [Own.getAt,h.get];exact T.getP_erase ps _ (h.tidyG s)
theorem Ay3 {t:T} (ht:t.tidy) (h:t.erase.quiet=true):∃ d v,t=.leaf d v/\d.node1=false:=by
 cases t with
 | leaf d v=>refine ⟨d,v,rfl,?_⟩;cases d<;>simp_all [T.erase,D.quiet,D.node1]
 | _=>simp [T.erase,D.quiet] at h
theorem Adl {d:D} {v:Value} {p:Path} {x:T} (h:(T.leaf d v).getP p=some x):p=[]/\x=.leaf d v:=by
 cases p with
 | nil=>simp only [T.getP,zJ] at h;exact ⟨rfl,h.symm⟩
 | cons q p=>simp [T.getP,T.elem] at h
def Aed (dead:Bool->Nat->Path->Bool) (G:FT):FT:=Ai1 (T.kill2 dead) G
theorem Ald (dead) (G:FT) (s':Nat):getT (Aed dead G) s'=T.kill2 dead (getT G s'):=Bau _ G s' rfl
theorem Adt (dead) (G:FT) (s':Nat):Aaa (Aed dead G) s'=(Aaa G s').map (T.kill2 dead):=Asj _ G s'
theorem Aay (dead) (G:FT):Aa0 (Aed dead G)=Aa0 G:=Avn _ (T.blocks_kill2 dead) G
theorem Ajw (dead) (G:FT):Acd (Aed dead G)=killF dead (Acd G):=by
 simp only [Acd,Aed,Ai1,killF,List.map_map];refine List.map_congr_left fun x _=>?_;simp [T.erase_kill2]
theorem Ak0 {G G1:FT} {dead} (h:Adi G G1 dead):Adi G (Aed dead G1) dead:=by
 intro s p x h1 h2;obtain ⟨k1,k2⟩:=h s p x h1 h2;rw [Ald];refine ⟨fun hd=>?_,fun hd=>?_⟩
 ·obtain ⟨x',h3,h4,h5⟩:=k1 hd;exact ⟨x',T.getP_kill2 dead h3 h4,h4,h5⟩
 ·obtain ⟨x',h3,h4⟩:=k2 hd;exact ⟨x',T.getP_kill2 dead h3 (T.like_node h4 h2),h4⟩
def Ae2 (_:Bool) (_:Nat) (_:Path):Bool:=false
theorem kill1_noDead (d:D):D.kill1 Ae2 d=d:=by cases d<;>simp [D.kill1,Ae2]
theorem kill2_noDead (d:D):D.kill2 Ae2 d=d:=by
 have h:(D.kill1 Ae2)=id:=funext kill1_noDead;cases d<;>simp [D.kill2,h,kill1_noDead]
theorem T.kill1_noDead (t:T):T.kill1 Ae2 t=t:=by cases t<;>simp [T.kill1,Own.kill1_noDead]
theorem T.kill2_noDead (t:T):T.kill2 Ae2 t=t:=by
 have h:(T.kill1 Ae2)=id:=funext T.kill1_noDead;cases t<;>simp [T.kill2,h,Own.kill2_noDead]
theorem Aij (F:Fr):killF Ae2 F=F:=by simp [killF,kill2_noDead]
theorem Aik (G:FT):Aed Ae2 G=G:=by simp [Aed,Ai1,T.kill2_noDead]
theorem Inv.upd (h:Inv n R M F G H a w) {M':Mem} {H':Blks} {a':Act} {w':World} (hM:M.le M') (s:Nat) (t':T) (dead:Bool->Nat->Path->Bool)
  (hk:Adi G (Aa7 G s t') dead) (ht:t'.tidy) (hs:Aao M' G t') (hblk:BlkOK M' w' (Aa0 (Aa7 G s t')++H')) (hmem:Aar M' w')
  (ha1:a'.tmps.size=n) (ha2:a'.defers=[]) (hv:if s<n then a'.tmps[s]? = some t'.val else R s=t'.val)
  (ho:∀ k,k≠s->a'.tmps[k]? = a.tmps[k]?) :
  Inv n R M' (killF dead (put0 F s t'.erase)) (Aed dead (Aa7 G s t')) H' a' w' where
 er:=by rw [Ajw,← All,h.er]
 size:=ha1
 defers:=ha2
 vals k t hf:=by
  rw [Adt] at hf;by_cases hks:k=s
  ·subst hks;rw [Acr] at hf;simp only [Option.map_some,zJ] at hf;subst hf;rw [T.val_kill2];exact hv
  ·rw [Ach G t' hks] at hf;cases hg:Aaa G k with
   | none=>simp [hg] at hf
   | some t0=>
    simp only [hg,Option.map_some,zJ] at hf;subst hf;have:=h.vals k t0 hg;rw [T.val_kill2,ho k hks];exact this
 tidy k t hf:=by
  rw [Adt] at hf;by_cases hks:k=s
  ·subst hks;rw [Acr] at hf;simp only [Option.map_some,zJ] at hf;subst hf;exact T.tidy_kill2 dead _ ht
  ·rw [Ach G t' hks] at hf;cases hg:Aaa G k with
   | none=>simp [hg] at hf
   | some t0=>
    simp only [hg,Option.map_some,zJ] at hf;subst hf;exact T.tidy_kill2 dead _ (h.tidy k t0 hg)
 ok k t hf:=by
  have hk':=Ak0 hk;rw [Adt] at hf;by_cases hks:k=s
  ·subst hks;rw [Acr] at hf;simp only [Option.map_some,zJ] at hf;subst hf;exact SlotOK_kill (Mem.le_refl M') hk' hs
  ·rw [Ach G t' hks] at hf;cases hg:Aaa G k with
   | none=>simp [hg] at hf
   | some t0=>
    simp only [hg,Option.map_some,zJ] at hf;subst hf;exact SlotOK_kill hM hk' (h.ok k t0 hg)
 blk:=by rw [Aay];exact hblk
 mem:=hmem
theorem Inv.world (h:Inv n R M F G H a w) {M':Mem} {H':Blks} {w':World} (hM:M.le M') (hblk:BlkOK M' w' (Aa0 G++H')) (hmem:Aar M' w'):Inv n R M' F G H' a w':=
 {h with
  ok:=fun s t hf=>SlotOK_keep hM (fun _ _ x hx hn=>⟨x,hx,T.like_refl hn⟩) (h.ok s t hf)
  blk:=hblk
  mem:=hmem }
theorem BlkOK.sub_perm {M:Mem} {w:World} {A B C:Blks} (h:BlkOK M w C) (p:(A++B).Perm C):BlkOK M w A:=(h.perm p.symm).left
theorem Arm (h:Inv n R M F G H a w) (s:Nat) (t:T) (hq:(get F s).quiet=true):Ae9 G (Aa7 G s t):=by
 intro s' p x hx hn;by_cases hs:s'=s
 ·subst hs;rw [h.get] at hq;obtain ⟨d,v,he,hd⟩:=Ay3 (h.tidyG s') hq;rw [he] at hx;obtain ⟨_,rfl⟩:=Adl hx;cases d<;>simp_all [D.node1,T.node]
 ·rw [Aaq G t hs];exact ⟨x,hx,T.like_refl hn⟩
theorem Aun (G:FT) (s:Nat) (t:T):Adi G (Aa7 G s t) (deadAt s []):=by
 intro s' p x hx hn;by_cases hs:s'=s
 ·subst hs;constructor<;>intro hd<;>simp [deadAt,pre] at hd
 ·rw [Aaq G t hs];exact ⟨fun _=>⟨x,hx,hn,rfl⟩,fun _=>⟨x,hx,T.like_refl hn⟩⟩
theorem Bb9 {n:Nat} {a:Act} {d:Nat} {v:Value} (hn:a.tmps.size=n) (hd:d<n) :
  (a.put (some d) v).tmps.size=n/\(a.put (some d) v).tmps[d]? = some v/\∀ k,k≠d->(a.put (some d) v).tmps[k]? = a.tmps[k]?:=by
 simp only [Act.put];refine ⟨by simpa using hn,?_,fun k hk=>?_⟩
 ·rw [Array.getElem?_setIfInBounds];simp [hn,hd]
 ·rw [Array.getElem?_setIfInBounds];simp [Ne.symm hk]
theorem Inv.put {t:T} (h:Inv n R M F G (t.blocks++H) a w) (ht:t.tidy) (hs:Aao M G t) (dst:Option Nat) (hd:∀ d,dst=some d->d<n) :
  ∃ G',Inv n R M (fin F dst t.erase) G' H (a.put dst t.val) w/\Sub (Aa0 G'++H) (Aa0 G++(t.blocks++H)):=by
 cases dst with
 | none=>
  refine ⟨G,{ h with blk:=?_ },?_⟩
  ·refine h.blk.sub_perm (A:=Aa0 G++H) (B:=t.blocks) ?_;rw [List.append_assoc];exact List.Perm.append_left _ List.perm_append_comm
  ·exact Sub.of_subset fun x hx=>by rcases List.mem_append.1 hx with hx | hx<;>simp [hx]
 | some d=>
  obtain ⟨p1,p2,p3⟩:=Bb9 (v:=t.val) h.size (hd d rfl);obtain ⟨r,q1,q2⟩:=Ad6 G d;have hperm:((Aa0 (Aa7 G d t)++H)++(getT G d).blocks).Perm (Aa0 G++(t.blocks++H)):=by
   refine (((q2 t).symm.append_right H).append_right _).trans ?_;refine List.Perm.trans ?_ (q1.append_right _);simp only [List.append_assoc];refine List.Perm.trans ?_ ((List.perm_append_comm (l₁:=(getT G d).blocks) (l₂:=r++(t.blocks++H))).symm.trans (by simp));simp only [List.append_assoc];rw [← List.append_assoc,← List.append_assoc r];exact List.Perm.append_right _ List.perm_append_comm
  have hblk:BlkOK M w (Aa0 (Aa7 G d t)++H):=h.blk.sub_perm hperm;have hsub:Sub (Aa0 (Aa7 G d t)++H) (Aa0 G++(t.blocks++H)):=fun g hg=>Sub.of_perm hperm g (by rw [List.map_append];exact List.mem_append_left _ hg);have hv:if d<n then (a.put (some d) t.val).tmps[d]? = some t.val else R d=t.val:=by simp only [hd d rfl,if_true];exact p2
  simp only [fin,Own.put]
  split
  ·rename_i hq;have:=h.upd (Mem.le_refl M) d t Ae2 ((Arm h d t hq).keeps _) ht hs hblk h.mem p1 h.defers hv p3;rw [Aij,Aik] at this;exact ⟨_,this,hsub⟩
  ·have:=h.upd (Mem.le_refl M) d t (deadAt d []) (Aun G d t) ht hs hblk h.mem p1 h.defers hv p3;exact ⟨_,this,by rw [Aay];exact hsub⟩
end
end Go.Own
namespace Go.Own
open D
theorem Ati {M:Mem} {G:FT} {d:D} {v:Value} (h:RI M d v):L1 M G d v:=by
 cases d with
 | alias=>simp [RI] at h
 | sub=>simp [RI] at h
 | place=>simp [RI] at h
 | undef=>simp [L1]
 | _=>simpa only [L1] using h
theorem Aty {M:Mem} {G:FT}:∀ {cs:List D} {vs:List Value},RCs M cs vs->All2 (L1 M G) cs vs
 | [],vs,h=>by simp only [RCs] at h;subst h;exact .nil
 | c::cs,vs,h=>by
  simp only [RCs] at h;obtain ⟨v,vs',rfl,h1,h2⟩:=h;exact .cons (Ati h1) (Aty h2)
theorem Am5 {M:Mem} {G:FT} {d:D} {v:Value} (h:RI M d v):LOK M G d v:=by
 cases d with
 | fn f cs=>
  simp only [RI] at h;obtain ⟨vs,h1,h2⟩:=h;exact ⟨vs,h1,Aty h2⟩
 | _=>simp only [LOK];exact Ati h
theorem Aga {M:Mem} {G:FT} {t:T} (h:T.wf M t):Ac8 M G t:=by
 cases t with
 | leaf d v=>
  simp only [T.wf] at h;rcases h with ⟨rfl,h⟩ | h
  ·exact ⟨by simp [L1],h⟩
  ·exact ⟨Ati h,h.one⟩
 | _=>exact h
theorem Ajs {M:Mem} {G:FT} {t:T} (h:T.wf M t):Aao M G t:=by
 cases t with
 | leaf d v=>
  simp only [T.wf] at h;rcases h with ⟨rfl,h⟩ | h
  ·simp [Aao,LOK,L1]
  ·exact Am5 h
 | agg=>simp [T.wf] at h
 | tup=>simp [T.wf] at h
 | _=>exact h
theorem Anc {M:Mem} {t:T} (h:T.wf M t):Ahb M t:=by
 cases t with
 | leaf d v=>
  simp only [T.wf] at h;rcases h with ⟨rfl,h⟩ | h
  ·exact .inl rfl
  ·exact .inr h
 | agg=>simp [T.wf] at h
 | _=>exact h
theorem Aks {M:Mem} {t:T} (h:T.wf M t) {i:Nat} {cs:List T} (hi:t.elem i=some cs):T.wfC M cs:=by
 cases t with
 | leaf d v=>simp [T.elem] at hi
 | own g cap e sp es=>
  simp only [T.elem] at hi;simp only [T.wf] at h;exact (T.wfE_iff M es).1 h.2.2.2.2 cs (List.mem_of_getElem? hi)
 | nil=>simp [T.elem] at hi
 | agg=>simp [T.wf] at h
 | box g e cs'=>cases i<;>simp [T.elem] at hi;subst hi;exact h
 | map r c es=>simp [T.elem] at hi
 | bld v0 bs0 t0 e0 l0=>simp [T.elem] at hi
 | tup=>simp [T.wf] at h
theorem Akt {M:Mem}:∀ (ps:Path) {t x:T},T.wf M t->t.getP ps=some x->T.wf M x
 | [],t,x,h,hx=>by simp only [T.getP,zJ] at hx;subst hx;exact h
 | (i,o)::ps,t,x,h,hx=>by
  simp only [T.getP] at hx;cases hi:t.elem i with
  | none=>simp [hi] at hx
  | some cs=>
   simp only [hi] at hx;cases ho:cs[o]? with
   | none=>simp [ho] at hx
   | some c=>
    simp only [ho] at hx;exact Akt ps ((T.wfC_iff M cs).1 (Aks h hi) c (List.mem_of_getElem? ho)) hx
theorem Awz {M:Mem} {cs:List T} (h:T.wfC M cs) {o:Nat} {c:T} (hc:T.wf M c):T.wfC M (cs.set o c):=by
 rw [T.wfC_iff] at h ⊢;intro x hx;rcases List.mem_or_eq_of_mem_set hx with hx | rfl
 ·exact h x hx
 ·exact hc
theorem Ar5 {M:Mem} {t t':T} (h:T.wf M t) {i:Nat} {cs cs':List T} (hi:t.elem i=some cs) (hl:cs'.length=cs.length) (hc:T.wfC M cs') (hs:t.setElem i cs'=some t'):T.wf M t':=by
 cases t with
 | leaf d v=>simp [T.elem] at hi
 | own g cap e sp es=>
  simp only [T.setElem,zJ] at hs;subst hs;simp only [T.elem] at hi;simp only [T.wf] at h ⊢;obtain ⟨⟨k,hk,hk1,hk2⟩,h2,h3,h4,h5⟩:=h;refine ⟨⟨k,hk,?_,by simpa using hk2⟩,by simpa using h2,h3,h4,?_⟩
  ·intro x hx;rcases List.mem_or_eq_of_mem_set hx with hx | rfl
   ·exact hk1 x hx
   ·rw [hl];exact hk1 cs (List.mem_of_getElem? hi)
  ·rw [T.wfE_iff] at h5 ⊢;intro x hx;rcases List.mem_or_eq_of_mem_set hx with hx | rfl
   ·exact h5 x hx
   ·exact hc
 | nil=>simp [T.elem] at hi
 | agg=>simp [T.wf] at h
 | box g e cs0=>cases i<;>simp [T.setElem] at hs;subst hs;exact hc
 | map r c es=>simp [T.elem] at hi
 | bld v0 bs0 t0 e0 l0=>simp [T.elem] at hi
 | tup=>simp [T.wf] at h
theorem Aku {M:Mem}:∀ (ps:Path) {t x' t':T},T.wf M t->T.wf M x'->t.setP ps x'=some t'->T.wf M t'
 | [],t,x',t',_,hx,hs=>by simp only [T.setP,zJ] at hs;subst hs;exact hx
 | (i,o)::ps,t,x',t',h,hx,hs=>by
  simp only [T.setP] at hs;cases hi:t.elem i with
  | none=>simp [hi] at hs
  | some cs=>
   simp only [hi] at hs;cases ho:cs[o]? with
   | none=>simp [ho] at hs
   | some c=>
    simp only [ho] at hs;cases hc:c.setP ps x' with
    | none=>simp [hc] at hs
    | some c'=>
     simp only [hc] at hs;have hw:=Aks h hi;exact Ar5 h hi (by simp) (Awz hw (Aku ps ((T.wfC_iff M cs).1 hw c (List.mem_of_getElem? ho)) hx hc)) hs
theorem Avf {M:Mem} {G:FT} {t x:T} (h:Ac8 M G t) {ps:Path} (hx:t.getP ps=some x) (hn:x.node=true):T.wf M x:=by
 cases t with
 | leaf d v=>
  obtain ⟨_,rfl⟩:=Adl hx;cases d<;>simp [T.node] at hn<;>exact .inr h.1
 | _=>exact Akt ps h hx
theorem Avh {M:Mem} {t x:T} (h:Ahb M t) {ps:Path} (hx:t.getP ps=some x) (hn:x.node=true):T.wf M x:=by
 cases t with
 | leaf d v=>
  obtain ⟨_,rfl⟩:=Adl hx;rcases h with rfl | h
  ·simp [T.node] at hn
  ·exact .inr h
 | agg cs=>
  cases ps with
  | nil=>simp only [T.getP,zJ] at hx;subst hx;simp [T.node] at hn
  | cons p ps=>
   obtain ⟨i,o⟩:=p;simp only [T.getP] at hx;cases i with
   | succ=>simp [T.elem] at hx
   | zero=>
    simp only [T.elem] at hx;cases ho:cs[o]? with
    | none=>simp [ho] at hx
    | some c=>simp only [ho] at hx;exact Akt ps ((T.wfC_iff M cs).1 h c (List.mem_of_getElem? ho)) hx
 | _=>exact Akt ps h hx
theorem Aju {M:Mem} {G:FT} {t x:T} (h:Aao M G t) {ps:Path} (hx:t.getP ps=some x) (hn:x.node=true):T.wf M x:=by
 cases t with
 | leaf d v=>
  obtain ⟨_,rfl⟩:=Adl hx;cases d<;>simp [T.node] at hn<;>exact .inr h
 | agg cs=>
  cases ps with
  | nil=>simp only [T.getP,zJ] at hx;subst hx;simp [T.node] at hn
  | cons p ps=>
   obtain ⟨i,o⟩:=p;simp only [T.getP] at hx;cases i with
   | succ=>simp [T.elem] at hx
   | zero=>
    simp only [T.elem] at hx;cases ho:cs[o]? with
    | none=>simp [ho] at hx
    | some c=>simp only [ho] at hx;exact Avf (h c (List.mem_of_getElem? ho)) hx hn
 | tup ds=>
  cases ps with
  | nil=>simp only [T.getP,zJ] at hx;subst hx;simp [T.node] at hn
  | cons p ps=>
   obtain ⟨i,o⟩:=p;simp only [T.getP] at hx;cases i with
   | succ=>simp [T.elem] at hx
   | zero=>
    simp only [T.elem] at hx;cases ho:ds[o]? with
    | none=>simp [ho] at hx
    | some c=>simp only [ho] at hx;exact Avh (h c (List.mem_of_getElem? ho)) hx hn
 | _=>exact Akt ps h hx
theorem An1 {d:D} {v:Value} {ps:Path} {x' t':T} (h:(T.leaf d v).setP ps x'=some t'):t'=x':=by
 cases ps with
 | nil=>simp only [T.setP,zJ] at h;exact h.symm
 | cons p ps=>simp [T.setP,T.elem] at h
theorem Avg {M:Mem} {G:FT} {t x' t':T} (h:Ac8 M G t) {ps:Path} (hx:T.wf M x') (hs:t.setP ps x'=some t'):Ac8 M G t':=by
 cases t with
 | leaf d v=>rw [An1 hs];exact Aga hx
 | _=>exact Aga (Aku ps h hx hs)
theorem Avi {M:Mem} {t x' t':T} (h:Ahb M t) {ps:Path} (hx:T.wf M x') (hs:t.setP ps x'=some t'):Ahb M t':=by
 cases t with
 | leaf d v=>rw [An1 hs];exact Anc hx
 | agg cs=>
  cases ps with
  | nil=>simp only [T.setP,zJ] at hs;subst hs;exact Anc hx
  | cons p ps=>
   obtain ⟨i,o⟩:=p;simp only [T.setP] at hs;cases i with
   | succ=>simp [T.elem] at hs
   | zero=>
    simp only [T.elem] at hs;cases ho:cs[o]? with
    | none=>simp [ho] at hs
    | some c=>
     simp only [ho] at hs;cases hc:c.setP ps x' with
     | none=>simp [hc] at hs
     | some c'=>
      simp only [hc,T.setElem,zJ] at hs;subst hs;exact Awz h (Aku ps ((T.wfC_iff M cs).1 h c (List.mem_of_getElem? ho)) hx hc)
 | _=>exact Anc (Aku ps h hx hs)
theorem Avl {M:Mem} {G:FT} {t x' t':T} (h:Aao M G t) {ps:Path} (hx:T.wf M x') (hs:t.setP ps x'=some t'):Aao M G t':=by
 cases t with
 | leaf d v=>rw [An1 hs];exact Ajs hx
 | agg cs=>
  cases ps with
  | nil=>simp only [T.setP,zJ] at hs;subst hs;exact Ajs hx
  | cons p ps=>
   obtain ⟨i,o⟩:=p;simp only [T.setP] at hs;cases i with
   | succ=>simp [T.elem] at hs
   | zero=>
    simp only [T.elem] at hs;cases ho:cs[o]? with
    | none=>simp [ho] at hs
    | some c=>
     simp only [ho] at hs;cases hc:c.setP ps x' with
     | none=>simp [hc] at hs
     | some c'=>
      simp only [hc,T.setElem,zJ] at hs;subst hs;intro y hy;rcases List.mem_or_eq_of_mem_set hy with hy | rfl
      ·exact h y hy
      ·exact Avg (h c (List.mem_of_getElem? ho)) hx hc
 | tup ds=>
  cases ps with
  | nil=>simp only [T.setP,zJ] at hs;subst hs;exact Ajs hx
  | cons p ps=>
   obtain ⟨i,o⟩:=p;simp only [T.setP] at hs;cases i with
   | succ=>simp [T.elem] at hs
   | zero=>
    simp only [T.elem] at hs;cases ho:ds[o]? with
    | none=>simp [ho] at hs
    | some c=>
     simp only [ho] at hs;cases hc:c.setP ps x' with
     | none=>simp [hc] at hs
     | some c'=>
      simp only [hc,T.setElem,zJ] at hs;subst hs;intro y hy;rcases List.mem_or_eq_of_mem_set hy with hy | rfl
      ·exact h y hy
      ·exact Avi (h c (List.mem_of_getElem? ho)) hx hc
 | _=>exact Ajs (Aku ps h hx hs)
section
variable {n:Nat} {R:Nat->Value} {M:Mem} {F:Fr} {G:FT} {H:Blks} {a:Act} {w:World}
theorem Aeh {G:FT} {s:Nat} {ps:Path} {x:T} (hx:(getT G s).getP ps=some x):∃ r,(x.blocks++r).Perm (Aa0 G) /\
  ∀ x',x'.val=x.val->∃ t',(getT G s).setP ps x'=some t'/\t'.val=(getT G s).val/\(x'.blocks++r).Perm (Aa0 (Aa7 G s t')):=by
 obtain ⟨r1,h1,h2⟩:=T.focus ps hx;obtain ⟨r2,h3,h4⟩:=Ad6 G s;refine ⟨r1++r2,?_,fun x' hv=>?_⟩
 ·rw [← List.append_assoc];exact (h1.append_right _).trans h3
 ·obtain ⟨t',k1,k2,k3⟩:=h2 x' hv;refine ⟨t',k1,k2,?_⟩;rw [← List.append_assoc];exact (k3.append_right _).trans (h4 t')
theorem Inv.setAt (h:Inv n R M F G H a w) (s:Nat) (ps:Path) (x':T):Own.setAt F s ps x'.erase=((getT G s).setP ps x').map fun t'=>put0 F s t'.erase:=by
 rw [Own.setAt,h.get,T.setP_erase ps _ x' (h.tidyG s)];cases (getT G s).setP ps x'<;>rfl
theorem Aqb {G:FT} {s:Nat} {ps:Path} {x x' t':T} (hx:(getT G s).getP ps=some x) (hs:(getT G s).setP ps x'=some t'):Adi G (Aa7 G s t') (deadAt s ps):=by
 intro s' p y hy hn;by_cases he:s'=s
 ·subst he;have:pre ps p=false->∃ y',(getT (Aa7 G s' t') s').getP p=some y'/\T.like y y':=fun hp=>by
   rw [Abr];exact T.getP_setP_other ps hx hs p y hp hy hn
  constructor<;>intro hd<;>simp only [deadAt,beq_self_eq_true,Bool.true_and] at hd
  ·obtain ⟨y',h1,h2⟩:=this hd;exact ⟨y',h1,T.like_node h2 hn,T.like_val h2⟩
  ·exact this hd
 ·rw [Aaq G t' he];exact ⟨fun _=>⟨y,hy,hn,rfl⟩,fun _=>⟨y,hy,T.like_refl hn⟩⟩
theorem Alh {G:FT} {s:Nat} {ps:Path} {x x' t':T} (hx:(getT G s).getP ps=some x) (hs:(getT G s).setP ps x'=some t') (hn':x.node=true->x'.node=true/\x'.val=x.val):Adi G (Aa7 G s t') (deadIn s ps):=by
 intro s' p y hy hn;by_cases he:s'=s
 ·subst he;have:pre ps p=false->∃ y',(getT (Aa7 G s' t') s').getP p=some y'/\T.like y y':=fun hp=>by
   rw [Abr];exact T.getP_setP_other ps hx hs p y hp hy hn
  constructor<;>intro hd<;>simp only [deadIn,beq_self_eq_true,Bool.true_and,Bool.false_and,Bool.not_false,Bool.and_true] at hd
  ·by_cases hp:pre ps p=true
   ·obtain ⟨r,rfl⟩:=(Ag8 ps p).1 hp;simp only [hp,Bool.true_and,Bool.not_eq_false',beq_iff_eq,List.length_append] at hd;have hr:r=[]:=List.length_eq_zero_iff.1 (by omega);subst hr;simp only [List.append_nil] at hy ⊢;rw [hx] at hy;cases hy;have:=T.getP_setP_below ps hx hs [];rw [List.append_nil] at this;rw [Abr,this];exact ⟨x',rfl,hn' hn⟩
   ·obtain ⟨y',h1,h2⟩:=this (by simpa using hp);exact ⟨y',h1,T.like_node h2 hn,T.like_val h2⟩
  ·exact this hd
 ·rw [Aaq G t' he];exact ⟨fun _=>⟨y,hy,hn,rfl⟩,fun _=>⟨y,hy,T.like_refl hn⟩⟩
theorem Inv.path (h:Inv n R M F G H a w) {M':Mem} {H':Blks} {w':World} (hM:M.le M') {s:Nat} {ps:Path} {x' t':T}
  (hs:(getT G s).setP ps x'=some t') (hv:t'.val=(getT G s).val) (dead:Bool->Nat->Path->Bool) (hk:Adi G (Aa7 G s t') dead) (ht:x'.tidy) (hw:T.wf M' x') (hf:Aaa G s=some (getT G s))
  (hblk:BlkOK M' w' (Aa0 (Aa7 G s t')++H')) (hmem:Aar M' w') :
  ∃ F1,Own.setAt F s ps x'.erase=some F1/\Inv n R M' (killF dead F1) (Aed dead (Aa7 G s t')) H' a w':=by
 refine ⟨put0 F s t'.erase,by rw [h.setAt,hs];rfl,?_⟩;have hsl:Aao M' G t':=Avl (SlotOK_keep hM (fun _ _ x hx hn=>⟨x,hx,T.like_refl hn⟩) (h.okG s)) hw hs;refine h.upd hM s t' dead hk (T.tidy_setP ps (h.tidyG s) ht hs) hsl hblk hmem h.size h.defers ?_ (fun _ _=>rfl);have:=h.vals s _ hf;rw [hv];exact this
end
end Go.Own
namespace Go.Own
open D
def VC (M:Mem) (G:FT) (c:D) (u:Value):Prop:=u.oneCell'=true/\(L1 M G c u∨(c=.own []/\u=.slice none 0 0))
def VOK (M:Mem) (G:FT):D->Value->Prop
 | .agg cs,v=>∃ vs,v=.agg vs.toArray/\All2 (VC M G) cs vs
 | .own [],v=>v=.slice none 0 0
 | d,v=>LOK M G d v
def Fits (n:Nat) (x:Operand):Prop:=∀ t,x=.tmp t->t<n
theorem Abf {M:Mem} {G:FT} {d:D} {v:Value} (h:LOK M G d v):VOK M G d v:=by
 cases d with
 | agg cs=>simp [LOK,L1,RI] at h
 | own es=>simp [LOK,L1,RI] at h
 | _=>simpa only [VOK] using h
theorem Auz {M:Mem} {t:T} (hn:t.node=true) (h:T.wf M t):t.val.oneCell'=true:=by
 cases t with
 | leaf d v=>
  rcases h with ⟨rfl,h⟩ | h
  ·exact h
  ·exact h.one
 | agg=>simp [T.node] at hn
 | tup=>simp [T.node] at hn
 | bld v bs t e l=>obtain ⟨g,p,rfl,_⟩:=h;rfl
 | _=>simp [T.val,Value.oneCell']
theorem All2.get {α β:Type} {P:α->β->Prop}:∀ {ags:List α} {bs:List β},All2 P ags bs->∀ {i:Nat} {x:α},ags[i]? = some x->∃ y,bs[i]? = some y/\P x y
 | _,_,.nil,i,x,h=>by simp at h
 | _,_,.cons p _,0,x,h=>by simp only [List.getElem?_cons_zero,zJ] at h;subst h;exact ⟨_,rfl,p⟩
 | _,_,.cons _ q,i+1,x,h=>by
  simp only [List.getElem?_cons_succ] at h ⊢;exact q.get h
theorem All2.length {α β:Type} {P:α->β->Prop} {ags:List α} {bs:List β} (h:All2 P ags bs):ags.length=bs.length:=by
 induction h with
 | nil=>rfl
 | cons _ _ ih=>simp [ih]
theorem All2.drop {α β:Type} {P:α->β->Prop} {ags:List α} {bs:List β} (h:All2 P ags bs) (k:Nat):All2 P (ags.drop k) (bs.drop k):=by
 induction h generalizing k with
 | nil=>simpa using All2.nil
 | cons a _ ih=>cases k with
  | zero=>exact .cons a (by simpa using ih 0)
  | succ k=>simpa using ih k
theorem All2.take {α β:Type} {P:α->β->Prop} {ags:List α} {bs:List β} (h:All2 P ags bs) (k:Nat):All2 P (ags.take k) (bs.take k):=by
 induction h generalizing k with
 | nil=>simpa using All2.nil
 | cons a _ ih=>cases k with
  | zero=>simpa using All2.nil
  | succ k=>simpa using All2.cons a (ih k)
theorem Bbd {M:Mem} {G:FT} {s:Nat} {ps:Path} {c:T} (hx:(getT G s).getP ps=some c) (ht:c.tidy) (hc:Ac8 M G c):VC M G (view1 s ps c.erase) c.val:=by
 cases c with
 | leaf d v=>
  refine ⟨hc.2,.inl ?_⟩;have:view1 s ps d=d:=by cases d<;>simp_all [T.tidy,view1]
  simpa only [T.erase,this,T.val] using hc.1
 | agg=>simp [Ac8,T.wf] at hc
 | tup=>simp [Ac8,T.wf] at hc
 | own g cap e sp es=>exact ⟨rfl,.inl ⟨_,hx,rfl,rfl⟩⟩
 | nil=>exact ⟨rfl,.inl ⟨_,hx,rfl,rfl⟩⟩
 | box g e cs=>exact ⟨rfl,.inl ⟨_,hx,rfl,rfl⟩⟩
 | map r cl es=>exact ⟨rfl,.inl ⟨_,hx,rfl,rfl⟩⟩
 | bld v0 bs0 t0 e0 l0=>
  have ho:v0.oneCell'=true:=by obtain ⟨g,p,rfl,_⟩:=hc;rfl
  exact ⟨ho,.inl ⟨_,hx,rfl,rfl⟩⟩
theorem Aj4 {M:Mem} {G:FT} {s:Nat} {ps:Path} {i:Nat} {x:T} {ec:List T} (hx:(getT G s).getP ps=some x) (hi:x.elem i=some ec) :
  ∀ (seg:List T) (o:Nat),(∀ j c,seg[j]? = some c->ec[o+j]? = some c)->(∀ c∈seg,c.tidy/\Ac8 M G c)->All2 (VC M G) (viewCells s ps i o (seg.map T.erase)) (seg.map T.val)
 | [],_,_,_=>.nil
 | c::seg,o,h,hc=>by
  simp only [List.map_cons,viewCells];obtain ⟨h1,h2⟩:=hc c (by simp);refine .cons (Bbd ?_ h1 h2) (Aj4 hx hi seg (o+1) ?_ (fun c hm=>hc c (by simp [hm])))
  ·rw [T.getP_below ps hx];have:=h 0 c rfl;simp only [Nat.add_zero] at this;simp [T.getP,hi,this]
  ·intro j c' hj;have:=h (j+1) c' (by simpa using hj);rw [← this];congr 1;omega
section
variable {n:Nat} {R:Nat->Value} {M:Mem} {F:Fr} {G:FT} {H:Blks} {a:Act} {w:World}
theorem Ao3 {M:Mem} {G:FT} {s:Nat} {ps:Path} {t:T} (hx:(getT G s).getP ps=some t) (ht:t.tidy) (hs:Aao M G t):VOK M G (view s ps t.erase) t.val:=by
 cases t with
 | leaf d v=>
  have:view s ps d=d:=by cases d<;>simp_all [T.tidy,view,view1]
  simp only [T.erase,this,T.val];exact Abf hs
 | agg cs=>
  simp only [T.erase,view,T.val];refine ⟨T.vals cs,rfl,?_⟩;rw [T.eraseC_eq,T.vals_eq];exact Aj4 hx (i:=0) rfl cs 0 (fun j c h=>by simpa using h) (fun c hc=>⟨(T.tidyC_iff cs).1 ht c hc,hs c hc⟩)
 | tup ds=>simp [T.erase,view,VOK,LOK,L1]
 | own g cap e sp es=>simp only [T.erase,view,view1];exact Abf (d:=.alias s ps) ⟨_,hx,rfl,rfl⟩
 | nil=>simp only [T.erase,view,view1];exact Abf (d:=.alias s ps) ⟨_,hx,rfl,rfl⟩
 | box g e cs=>simp only [T.erase,view,view1];exact Abf (d:=.alias s ps) ⟨_,hx,rfl,rfl⟩
 | map r cl es=>simp only [T.erase,view,view1];exact Abf (d:=.alias s ps) ⟨_,hx,rfl,rfl⟩
 | bld v0 bs0 t0 e0 l0=>simp only [T.erase,view,view1];exact Abf (d:=.alias s ps) ⟨_,hx,rfl,rfl⟩
theorem Inv.eval (h:Inv n R M F G H a w) {t:Nat} (ht:t<n) (hf:Aaa G t=some (getT G t)):a.eval (.tmp t)=(getT G t).val:=by
 have:=h.vals t _ hf;rw [if_pos ht] at this;simp [Act.eval,Array.getD_eq_getD_getElem?,this]
theorem Asb {M:Mem} {G:FT} {v:Value} (h:v.oneCell'=true):VC M G (const1 v) v:=by
 unfold const1
 split
 ·rename_i hn;refine ⟨h,.inr ⟨rfl,?_⟩⟩;unfold nilSlice at hn
  split at hn
  ·rfl
  ·simp at hn
 ·exact ⟨h,.inl (by simp only [L1,RI];exact ⟨trivial,h⟩)⟩
theorem Az1 {M:Mem} {G:FT} {v:Value} (h:constOK v=true):VOK M G (constD v) v:=by
 have one:∀ v:Value,v.oneCell'=true->VOK M G (const1 v) v:=fun v hv=>by
  rcases Asb (M:=M) (G:=G) hv with ⟨_,h | ⟨h1,h2⟩⟩
  ·unfold const1 at h ⊢
   split
   ·rename_i hn;simp only [hn,if_true,L1,RI] at h
   ·rename_i hn;simp only [hn,Bool.false_eq_true,if_false] at h;exact Abf (by simpa only [LOK] using h)
  ·rw [h1];exact h2
 cases v with
 | agg cs=>
  refine ⟨cs.toList,rfl,?_⟩;simp only [constOK,List.all_eq_true] at h;generalize cs.toList=l at h
  induction l with
  | nil=>exact .nil
  | cons c l ih=>exact .cons (Asb (h c (by simp))) (ih fun x hx=>h x (by simp [hx]))
 | _=>exact one _ h
theorem Inv.opd {E:Env} (h:Inv n R M F G H a w) {x:Operand} (hx:Fits n x) {d:D} (hd:Own.opd E F x=some d):VOK M G d (a.eval x):=by
 cases x with
 | tmp t=>
  simp only [Own.opd,zJ] at hd;subst hd;rw [h.get];rcases Agc G t with k | ⟨_,k⟩
  ·rw [h.eval (hx t rfl) k];exact Ao3 rfl (h.tidyG t) (h.okG t)
  ·rw [k];simp [noT,T.erase,view,view1,VOK,LOK,L1]
 | const v=>
  simp only [Own.opd] at hd
  split at hd
  ·rename_i hc;cases hd;exact Az1 hc
  ·cases hd
 | func f=>
  simp only [Own.opd,zJ] at hd;subst hd;exact ⟨[],rfl,.nil⟩
 | global g=>simp [Own.opd] at hd
end
end Go.Own
namespace Go.Own
open D
def Giv (M:Mem):T->Prop
 | .leaf d v=>RI M d v
 | .agg cs=>T.wfC M cs
 | .tup _=>False
 | t=>T.wf M t
theorem Aca {M:Mem} {t:T} (h:T.wf M t) (hd:t.erase≠.undef):Giv M t:=by
 cases t with
 | leaf d v=>
  rcases h with ⟨rfl,_⟩ | h
  ·simp [T.erase] at hd
  ·exact h
 | agg=>simp [T.wf] at h
 | tup=>simp [T.wf] at h
 | _=>exact h
theorem Abj {M:Mem} {G:FT} {t:T} (h:Giv M t):Aao M G t:=by
 cases t with
 | leaf d v=>exact Am5 h
 | agg cs=>exact fun c hc=>Aga ((T.wfC_iff M cs).1 h c hc)
 | tup=>exact h.elim
 | _=>exact h
theorem Giv.mono {M M':Mem} (hM:M.le M') {t:T} (h:Giv M t):Giv M' t:=by
 cases t with
 | leaf d v=>exact RI.mono hM _ _ h
 | agg cs=>exact wfC_mono hM _ h
 | tup=>exact h.elim
 | _=>exact Ah2 hM _ h
section
variable {n:Nat} {R:Nat->Value} {M:Mem} {F F':Fr} {G:FT} {H:Blks} {a:Act} {w:World}
def Took (n:Nat) (R:Nat->Value) (M:Mem) (F':Fr) (G:FT) (H:Blks) (a:Act) (w:World) (W:T->Prop) (d:D) (v:Value):Prop:=
 ∃ t G',t.erase=d/\t.val=v/\t.tidy/\W t/\Inv n R M F' G' (t.blocks++H) a w/\Sub (Aa0 G'++(t.blocks++H)) (Aa0 G++H)
theorem Took.here (h:Inv n R M F G H a w) {W:T->Prop} {t:T} (hb:t.blocks=[]) (ht:t.tidy) (hw:W t):Took n R M F G H a w W t.erase t.val:=
 ⟨t,G,rfl,rfl,ht,hw,by rw [hb];exact h,by rw [hb];exact Sub.refl _⟩
theorem Aaz {s:Nat} {ps:Path} {x:T} (hx:(getT G s).getP ps=some x) (hn:x.node=true):Aaa G s=some (getT G s):=by
 rcases Agc G s with k | ⟨_,k⟩
 ·exact k
 ·rw [k,noT] at hx;obtain ⟨_,rfl⟩:=Adl hx;simp [T.node] at hn
theorem An5 (h:Inv n R M F G H a w) {s:Nat} {ps:Path} {v:Value} {d:D} (hL:L1 M G (.alias s ps) v) (ht:takeAt F s ps=some (d,F')):Took n R M F' G H a w (fun t=>T.wf M t/\t.erase≠.undef) d v:=by
 obtain ⟨x,hx,hn,rfl⟩:=hL;have hw:=Aju (h.okG s) hx hn;have htd:=T.tidy_getP ps (h.tidyG s) hx;simp only [takeAt,h.getAt,hx,Option.map_some] at ht
 split at ht
 ·rename_i he;obtain ⟨r,p1,p2⟩:=Aeh hx;obtain ⟨t',q1,q2,q3⟩:=p2 (.leaf .undef x.val) rfl;have hblk:BlkOK M w (Aa0 (Aa7 G s t')++(x.blocks++H)):=by
   refine h.blk.perm ?_;refine (p1.symm.append_right H).trans ?_;refine List.Perm.trans ?_ (q3.append_right _);simp only [T.blocks,List.nil_append];rw [← List.append_assoc];exact List.Perm.append_right _ List.perm_append_comm
  obtain ⟨F1,k1,k2⟩:=h.path (Mem.le_refl M) q1 q2 (deadAt s ps) (Aqb hx q1) (by simp [T.tidy]) (.inl ⟨rfl,Auz hn hw⟩) (Aaz hx hn) hblk h.mem;simp only [T.erase] at k1;rw [k1] at ht;cases ht;refine ⟨x,_,rfl,rfl,htd,⟨hw,?_⟩,k2,?_⟩
  ·intro hu;rw [hu] at he;simp [D.ex1] at he
  ·rw [Aay];refine Sub.of_perm ?_;refine (q3.symm.append_right _).trans ?_;refine List.Perm.trans ?_ (p1.append_right H);simp only [T.blocks,List.nil_append];rw [← List.append_assoc];exact List.Perm.append_right _ List.perm_append_comm
 ·rename_i he;cases x with
  | leaf d0 v0=>
   simp only [T.erase] at ht;cases d0<;>simp [T.node] at hn<;>simp only [zJ,Prod.mk.injEq] at ht<;>obtain ⟨rfl,rfl⟩:=ht
   ·exact Took.here h (t:=.leaf (.sl _) v0) (by simp [T.blocks]) htd ⟨hw,by simp [T.erase]⟩
   ·exact Took.here h (t:=.leaf (.ref _) v0) (by simp [T.blocks]) htd ⟨hw,by simp [T.erase]⟩
  | own=>simp [T.erase,D.ex1] at he
  | nil=>simp [T.erase,D.ex1] at he
  | box=>simp [T.erase,D.ex1] at he
  | map=>simp [T.erase,D.ex1] at he
  | bld=>simp [T.erase,D.ex1] at he
  | agg=>simp [T.node] at hn
  | tup=>simp [T.node] at hn
theorem At.part {M:Mem} {g b:Nat} {vs:List Value} (h:At M g b vs) (j k:Nat):At M g (b+j) ((vs.drop j).take k):=by
 obtain ⟨cs,e,fr,h1,h2⟩:=h;refine ⟨cs,e,fr,h1,fun i u hu=>?_⟩;have hi:i<k:=by
  by_cases hi:i<k
  ·exact hi
  ·rw [List.getElem?_take,if_neg hi] at hu;cases hu
 rw [List.getElem?_take_of_lt hi,List.getElem?_drop] at hu;have:=h2 (j+i) u hu;rw [← this];congr 1;omega
theorem RCs.length {M:Mem}:∀ {cs:List D} {vs:List Value},RCs M cs vs->vs.length=cs.length
 | [],vs,h=>by simp only [RCs] at h;subst h;rfl
 | c::cs,vs,h=>by simp only [RCs] at h;obtain ⟨v,vs',rfl,_,h2⟩:=h;simp [h2.length]
theorem REs.drop {M:Mem} {k:Nat}:∀ {es:List (List D)} {vs:List Value},REs M es vs->(∀ e∈es,e.length=k)->∀ j,REs M (es.drop j) (vs.drop (j*k))
 | es,vs,h,_,0=>by simpa using h
 | [],vs,h,_,j+1=>by simp only [REs] at h;subst h;simp [REs]
 | e::es,vs,h,hk,j+1=>by
  simp only [REs] at h;obtain ⟨v1,v2,rfl,h1,h2⟩:=h;have hl:v1.length=k:=by rw [h1.length];exact hk e (by simp)
  have:=REs.drop h2 (fun x hx=>hk x (by simp [hx])) j;simp only [List.drop_succ_cons];have he:(j+1)*k=v1.length+j*k:=by rw [hl,Nat.succ_mul];omega
  rw [he,← List.drop_drop,List.drop_left];exact this
theorem REs.take {M:Mem} {k:Nat}:∀ {es:List (List D)} {vs:List Value},REs M es vs->(∀ e∈es,e.length=k)->∀ j,REs M (es.take j) (vs.take (j*k))
 | es,vs,h,_,0=>by simp [REs]
 | [],vs,h,_,j+1=>by simp only [REs] at h;subst h;simp [REs]
 | e::es,vs,h,hk,j+1=>by
  simp only [REs] at h;obtain ⟨v1,v2,rfl,h1,h2⟩:=h;have hl:v1.length=k:=by rw [h1.length];exact hk e (by simp)
  have:=REs.take h2 (fun x hx=>hk x (by simp [hx])) j;simp only [List.take_succ_cons,REs];have he:(j+1)*k=v1.length+j*k:=by rw [hl,Nat.succ_mul];omega
  refine ⟨v1,v2.take (j*k),?_,h1,this⟩;rw [he,List.take_length_add_append]
theorem Addr.add_plain (g b k:Nat):(⟨g,b,none⟩:Addr).add k=⟨g,b+k,none⟩:=by
 unfold Addr.add
 split
 ·rename_i h;subst h;rfl
 ·rfl
theorem Am6 {es:List (List D)} {vx v:Value} {off len:Nat} (hr:RI M (.sl es) vx) (hs:Akz (.leaf (.sl es) vx) off len v):RI M (.sl ((es.drop off).take len)) v:=by
 obtain ⟨A,m,c,k,es',A',h1,h2,h3,h4,h5,h6,rfl,h8⟩:=hs;simp only [T.erase,reduceCtorEq,D.sl.injEq,false_or] at h2;subst h2;simp only [T.val] at h1;subst h1;simp only [RI] at hr ⊢;obtain ⟨A0,n0,c0,e0,e1,e2,e3,e4⟩:=hr;simp only [Value.slice.injEq] at e0;obtain ⟨rfl,rfl,rfl⟩:=e0;refine ⟨A',len,c-off,rfl,?_,by omega,by omega,?_⟩
 ·rw [List.length_take,List.length_drop];omega
 ·by_cases hz:len=0
  ·left;simp [hz]
  right;rcases e4 with e4 | ⟨g,b,k0,vs,rfl,hA,hk0,hw,hR⟩
  ·subst e4;simp at h3;omega
  have hk:k0=k:=by
   cases es with
   | nil=>simp at h3;omega
   | cons e es=>rw [← hw e (by simp),h4 e (by simp)]
  subst hk;rcases h8 with h8 | h8
  ·refine ⟨g,b+off*k0,k0,(vs.drop (off*k0)).take (len*k0),?_,hA.part _ _,hk0,?_,?_⟩
   ·rw [h8];simp [Addr.add_plain]
   ·intro x hx;exact hw x (List.mem_of_mem_drop (List.mem_of_mem_take hx))
   ·exact (hR.drop hw off).take (fun x hx=>hw x (List.mem_of_mem_drop hx)) len
  ·omega
theorem Ar3 (es:List (List T)) (k:Nat):T.valsE (es.take k)++T.valsE (es.drop k)=T.valsE es:=by
 rw [← T.valsE_append,List.take_append_drop]
theorem Aio {M:Mem}:∀ {cs:List T},T.wfC M cs->∀ u∈T.vals cs,u.oneCell'=true
 | [],_,u,hu=>by simp [T.vals] at hu
 | c::cs,h,u,hu=>by
  simp only [T.wfC] at h;simp only [T.vals,List.mem_cons] at hu;rcases hu with rfl | hu
  ·exact (Aga (G:=[]) h.1 |> fun hc=>by
    cases c with
    | leaf d v=>exact hc.2
    | agg=>simp [T.wf] at h
    | tup=>simp [T.wf] at h
    | bld=>obtain ⟨g,p,rfl,_⟩:=h.1;rfl
    | _=>rfl)
  ·exact Aio h.2 u hu
theorem Adf {M:Mem}:∀ {es:List (List T)},T.wfE M es->∀ u∈T.valsE es,u.oneCell'=true
 | [],_,u,hu=>by simp [T.valsE] at hu
 | e::es,h,u,hu=>by
  simp only [T.wfE] at h;simp only [T.valsE,List.mem_append] at hu;rcases hu with hu | hu
  ·exact Aio h.1 u hu
  ·exact Adf h.2 u hu
theorem Aat {k:Nat}:∀ {es:List (List T)},(∀ x∈es,x.length=k)->(T.valsE es).length=es.length*k
 | [],_=>by simp [T.valsE]
 | e::es,h=>by
  simp only [T.valsE,List.length_append,T.vals_length,List.length_cons,Nat.succ_mul];rw [h e (by simp),Aat (fun x hx=>h x (by simp [hx]))];omega
theorem Bh4 {α:Type} (r y H z:List α):((r++(y++H))++z).Perm (((y++z)++r)++H):=by
 refine List.perm_append_comm.trans ?_;simp only [List.append_assoc];refine (List.Perm.append_left z (List.perm_append_comm_assoc r y H)).trans ?_;exact List.perm_append_comm_assoc z y (r++H)
theorem Arz {M:Mem} {x:T} {off len:Nat} {v:Value} (h:Akz x off len v) (hl:len=0):RI M (.sl []) v:=by
 obtain ⟨A,n,c,k,es,A',h1,h2,h3,h4,h5,h6,rfl,h8⟩:=h;subst hl;simp only [RI];exact ⟨A',0,c-off,rfl,rfl,Nat.zero_le _,by simp [maxLen],.inl trivial⟩
theorem Alr (h:Inv n R M F G H a w) {s:Nat} {ps:Path} {off len:Nat} {v:Value} {d:D} (hL:L1 M G (.sub s ps off len) v) (ht:takeSub F s ps off len=some (d,F')):Took n R M F' G H a w (fun t=>T.wf M t/\t.erase≠.undef) d v:=by
 obtain ⟨x,hx,hn,hS⟩:=hL;have hw:=Aju (h.okG s) hx hn;have htd:=T.tidy_getP ps (h.tidyG s) hx;simp only [takeSub,h.getAt,hx,Option.map_some] at ht;cases x with
 | leaf d0 v0=>
  cases d0<;>simp [T.node] at hn<;>simp only [T.erase] at ht
  ·split at ht
   ·simp only [zJ,Prod.mk.injEq] at ht;obtain ⟨rfl,rfl⟩:=ht;rcases hw with ⟨hu,_⟩ | hr
    ·cases hu
    ·have:=Am6 hr hS;exact Took.here h (t:=.leaf _ v) (by simp [T.blocks]) (by simp [T.tidy]) ⟨.inr this,by simp [T.erase]⟩
   ·cases ht
  ·cases ht
 | own g cap e sp es=>
  simp only [T.erase,T.eraseE_length] at ht
  split at ht
  ·rename_i hc;simp only [zJ,Prod.mk.injEq] at ht;obtain ⟨rfl,rfl⟩:=ht;exact Took.here h (t:=.leaf _ v) (by simp [T.blocks]) (by simp [T.tidy]) ⟨.inr (Arz hS hc),by simp [T.erase]⟩
  split at ht
  ·rename_i hlen0 hc;obtain ⟨rfl,hlen⟩:=hc;obtain ⟨r,p1,p2⟩:=Aeh hx;obtain ⟨t',q1,q2,q3⟩:=p2 (.leaf .undef (T.own g cap e sp es).val) rfl;obtain ⟨A,m,c,k,es',A',h1,h2,h3,h4,h5,h6,rfl,h8⟩:=hS;simp only [T.val,Value.slice.injEq] at h1;obtain ⟨rfl,rfl,rfl⟩:=h1;have hA:A'=some ⟨g,0,none⟩:=by
    rcases h8 with h8 | h8
    ·rw [h8];simp [Addr.add_plain]
    ·omega
   subst hA;obtain ⟨⟨kk,hk0,hk1,hk2⟩,w2,w3,w4,w5⟩:=hw
   let y:T:=.own g cap e (T.valsE (es.drop len)++sp) (es.take len)
   have hyb:y.blocks=(g,.cells (T.valsE es++sp).toArray e (0,0))::T.blocksE (es.take len):=by
    simp only [y,T.blocks];rw [← List.append_assoc,Ar3]
   have hpx:(y.blocks++T.blocksE (es.drop len)).Perm (T.own g cap e sp es).blocks:=by
    rw [hyb];simp only [T.blocks,List.cons_append];rw [← T.blocksE_append,List.take_append_drop]
   have hperm:((Aa0 (Aa7 G s t')++(y.blocks++H))++T.blocksE (es.drop len)).Perm (Aa0 G++H):=by
    refine List.Perm.trans ?_ (p1.append_right H);refine List.Perm.trans ?_ ((hpx.append_right r).append_right H);refine (((q3.symm.trans (by simp [T.blocks])).append_right _).append_right _).trans (?_:((r++(y.blocks++H))++T.blocksE (es.drop len)).Perm _);exact Bh4 r y.blocks H _
   have hblk:BlkOK M w (Aa0 (Aa7 G s t')++(y.blocks++H)):=h.blk.sub_perm hperm;obtain ⟨F1,k1,k2⟩:=h.path (Mem.le_refl M) q1 q2 (deadAt s ps) (Aqb hx q1) (by simp [T.tidy]) (.inl ⟨rfl,rfl⟩) (Aaz hx rfl) hblk h.mem;simp only [T.erase] at k1;rw [k1] at ht;simp only [zJ,Prod.mk.injEq] at ht;obtain ⟨rfl,rfl⟩:=ht;refine ⟨y,_,?_,?_,?_,⟨?_,by simp [y,T.erase]⟩,k2,?_⟩
   ·simp [y,T.erase,T.eraseE_eq,List.map_take]
   ·simp only [y,T.val,List.length_take,Nat.sub_zero];congr 1;omega
   ·simp only [y,T.tidy,T.tidyE_iff] at htd ⊢;intro z hz;exact htd z (List.mem_of_mem_take hz)
   ·simp only [y,T.wf];refine ⟨⟨kk,hk0,fun z hz=>hk1 z (List.mem_of_mem_take hz),?_⟩,by rw [List.length_take];omega,w3,?_,?_⟩
    ·rw [List.length_append,Aat (fun z hz=>hk1 z (List.mem_of_mem_drop hz)),List.length_drop,List.length_take,← hk2];have:es.length=(es.length-len)+min len es.length:=by omega
     conv=>rhs;rw [this,Nat.add_mul]
     omega
    ·intro u hu;rcases List.mem_append.1 hu with hu | hu
     ·refine Adf (M:=M) ?_ u hu;rw [T.wfE_iff] at w5 ⊢;intro z hz;exact w5 z (List.mem_of_mem_drop hz)
     ·exact w4 u hu
    ·rw [T.wfE_iff] at w5 ⊢;intro z hz;exact w5 z (List.mem_of_mem_take hz)
   ·rw [Aay];exact fun g hg=>Sub.of_perm hperm g (by rw [List.map_append];exact List.mem_append_left _ hg)
  ·cases ht
 | nil=>
  simp only [T.erase,List.length_nil,Nat.le_zero_eq] at ht
  split at ht
  ·rename_i hc;simp only [zJ,Prod.mk.injEq] at ht;obtain ⟨rfl,rfl⟩:=ht;exact Took.here h (t:=.leaf _ v) (by simp [T.blocks]) (by simp [T.tidy]) ⟨.inr (Arz hS hc),by simp [T.erase]⟩
  ·rename_i hc;rw [if_neg (by omega)] at ht;cases ht
 | box=>cases ht
 | map=>cases ht
 | bld=>cases ht
 | agg=>simp [T.node] at hn
 | tup=>simp [T.node] at hn
end
end Go.Own
namespace Go.Own
open D
section
variable {n:Nat} {R:Nat->Value} {M:Mem} {F F':Fr} {G:FT} {H:Blks} {a:Act} {w:World}
theorem Took.imp {W W':T->Prop} {d:D} {v:Value} (h:Took n R M F' G H a w W d v) (k:∀ t,T.tidy t->W t->W' t):Took n R M F' G H a w W' d v:=by
 obtain ⟨t,G',h1,h2,h3,h4,h5⟩:=h;exact ⟨t,G',h1,h2,h3,k t h3 h4,h5⟩
theorem Aw8 (h:Inv n R M F G H a w) {c d:D} {u:Value} (hc:L1 M G c u) (ho:u.oneCell'=true) (ht:takeCell F c=some (d,F')):Took n R M F' G H a w (fun t=>T.wf M t) d u:=by
 cases c with
 | alias s ps=>exact (An5 h hc ht).imp fun _ _ k=>k.1
 | sub s ps x y=>exact (Alr h hc ht).imp fun _ _ k=>k.1
 | undef=>simp only [takeCell,zJ,Prod.mk.injEq] at ht;obtain ⟨rfl,rfl⟩:=ht;exact Took.here h (t:=.leaf .undef u) (by simp [T.blocks]) (by simp [T.tidy]) (.inl ⟨rfl,ho⟩)
 | lit x=>simp only [takeCell,zJ,Prod.mk.injEq] at ht;obtain ⟨rfl,rfl⟩:=ht;exact Took.here h (t:=.leaf (.lit x) u) (by simp [T.blocks]) (by simp [T.tidy]) (.inr hc)
 | sl x=>simp only [takeCell,zJ,Prod.mk.injEq] at ht;obtain ⟨rfl,rfl⟩:=ht;exact Took.here h (t:=.leaf (.sl x) u) (by simp [T.blocks]) (by simp [T.tidy]) (.inr hc)
 | ref x=>simp only [takeCell,zJ,Prod.mk.injEq] at ht;obtain ⟨rfl,rfl⟩:=ht;exact Took.here h (t:=.leaf (.ref x) u) (by simp [T.blocks]) (by simp [T.tidy]) (.inr hc)
 | fn f x=>simp only [takeCell,zJ,Prod.mk.injEq] at ht;obtain ⟨rfl,rfl⟩:=ht;exact Took.here h (t:=.leaf (.fn f x) u) (by simp [T.blocks]) (by simp [T.tidy]) (.inr hc)
 | own=>simp [takeCell] at ht
 | box=>simp [takeCell] at ht
 | map=>simp [takeCell] at ht
 | bld=>simp [takeCell] at ht
 | agg=>simp [takeCell] at ht
 | tup=>simp [takeCell] at ht
 | place=>simp [takeCell] at ht
def holds (n:Nat) (R:Nat->Value) (a:Act) (t:Nat) (v:Value):Prop:=if t<n then a.tmps[t]? = some v else R t=v
theorem Inv.holds (h:Inv n R M F G H a w) {t:Nat} (hf:Aaa G t=some (getT G t)):holds n R a t (getT G t).val:=h.vals t _ hf
theorem holds.eq {t:Nat} {v v':Value} (h:Own.holds n R a t v) (k:Own.holds n R a t v'):v=v':=by
 unfold Own.holds at h k
 split at h
 ·rename_i ht;rw [if_pos ht] at k;rw [h] at k;exact Option.some.inj k
 ·rename_i ht;rw [if_neg ht] at k;rw [← h,← k]
theorem Asf {t:T} (ht:t.tidy) {cs:List D} (h:t.erase=.agg cs):∃ ts,t=.agg ts/\ts.map T.erase=cs:=by
 cases t with
 | leaf d v=>simp only [T.erase] at h;subst h;simp [T.tidy] at ht
 | agg ts=>simp only [T.erase,D.agg.injEq] at h;exact ⟨ts,rfl,by rw [← T.eraseC_eq];exact h⟩
 | _=>simp [T.erase] at h
theorem Acl {G:FT} {t:Nat} (h:getT G t≠noT):Aaa G t=some (getT G t):=by
 rcases Agc G t with k | ⟨_,k⟩
 ·exact k
 ·exact absurd k h
theorem An6:∀ (k o:Nat) {F:Fr} {G:FT} {H:Blks} {F':Fr} {ds:List D} {vs:List Value},Inv n R M F G H a w->∀ {t:Nat},holds n R a t (.agg vs.toArray)->takeCells F t o k=some (ds,F') ->
  ∃ ts G',ts.map T.erase=ds/\T.vals ts=(vs.drop o).take k/\T.tidyC ts/\T.wfC M ts/\Inv n R M F' G' (T.blocksC ts++H) a w/\Sub (Aa0 G'++(T.blocksC ts++H)) (Aa0 G++H)
 | 0,o,F,G,H,F',ds,vs,h,t,hh,ht=>by
  simp only [takeCells,zJ,Prod.mk.injEq] at ht;obtain ⟨rfl,rfl⟩:=ht;exact ⟨[],G,rfl,by simp [T.vals],by simp [T.tidyC],by simp [T.wfC],by simpa [T.blocksC] using h,by simpa [T.blocksC] using Sub.refl _⟩
 | k+1,o,F,G,H,F',ds,vs,h,t,hh,ht=>by
  simp only [takeCells] at ht;cases hg:Own.get F t with
  | agg cs=>
   simp only [hg] at ht;cases hc:cs[o]? with
   | none=>simp [hc] at ht
   | some c=>
    simp only [hc] at ht;cases hk:takeCell F c with
    | none=>simp [hk] at ht
    | some r=>
     obtain ⟨c',F1⟩:=r;simp only [hk] at ht;cases hr:takeCells F1 t (o+1) k with
     | none=>simp [hr] at ht
     | some r2=>
      obtain ⟨cs',F2⟩:=r2;simp only [hr,zJ,Prod.mk.injEq] at ht;obtain ⟨rfl,rfl⟩:=ht;rw [h.get] at hg;obtain ⟨ts,e1,e2⟩:=Asf (h.tidyG t) hg;have hf:Aaa G t=some (getT G t):=Acl (by rw [e1,noT];simp);have hv:=(h.holds hf).eq hh;rw [e1] at hv;simp only [T.val,Value.agg.injEq] at hv;have hv:T.vals ts=vs:=by simpa using congrArg Array.toList hv
      have hoc:=h.okG t;have htc:=h.tidyG t;rw [e1] at hoc htc;rw [← e2,List.getElem?_map] at hc;cases hto:ts[o]? with
      | none=>simp [hto] at hc
      | some t0=>
       simp only [hto,Option.map_some,zJ] at hc;have hu:vs[o]? = some t0.val:=by rw [← hv,T.vals_eq,List.getElem?_map,hto];rfl
       have hcell:=hoc t0 (List.mem_of_getElem? hto);have hL:L1 M G c t0.val/\t0.val.oneCell'=true:=by
        subst hc;cases t0 with
        | leaf d v=>exact ⟨by simpa only [T.erase,T.val] using hcell.1,hcell.2⟩
        | agg=>simp [Ac8,T.wf] at hcell
        | tup=>simp [Ac8,T.wf] at hcell
        | own=>simp [T.erase,takeCell] at hk
        | nil=>simp [T.erase,takeCell] at hk
        | box=>simp [T.erase,takeCell] at hk
        | map=>simp [T.erase,takeCell] at hk
        | bld=>simp [T.erase,takeCell] at hk
       obtain ⟨t1,G1,b1,b2,b3,b4,b5,b6⟩:=Aw8 h hL.1 hL.2 hk;obtain ⟨ts',G2,c1,c2,c3,c4,c5,c6⟩:=An6 k (o+1) b5 hh hr;refine ⟨t1::ts',G2,by simp [b1,c1],?_,⟨b3,c3⟩,⟨b4,c4⟩,?_,?_⟩
       ·simp only [T.vals,b2,c2];obtain ⟨hlt,he⟩:=List.getElem?_eq_some_iff.1 hu;rw [← he,← List.take_succ_cons,List.getElem_cons_drop]
       ·refine { c5 with blk:=?_ };refine c5.blk.perm (List.Perm.append_left _ ?_);simp only [T.blocksC,List.append_assoc];exact List.perm_append_comm_assoc _ _ _
       ·refine Sub.trans (Sub.of_perm ?_) (c6.trans b6);refine List.Perm.append_left _ ?_;simp only [T.blocksC,List.append_assoc];exact List.perm_append_comm_assoc _ _ _
  | _=>simp [hg] at ht
theorem Ajt {M:Mem} {G:FT}:∀ {cs:List D} {vs:List Value},All2 (L1 M G) cs vs->cs.any bad1=false->RCs M cs vs
 | _,_,.nil,_=>by simp [RCs]
 | _,_,.cons (a:=c) (ags:=cs) p q,h=>by
  simp only [List.any_cons,Bool.or_eq_false_iff] at h;simp only [RCs];refine ⟨_,_,rfl,?_,Ajt q h.2⟩;have h1:=h.1;cases c with
  | alias=>simp [bad1] at h1
  | sub=>simp [bad1] at h1
  | place=>simp [bad1] at h1
  | undef=>simp [bad1] at h1
  | _=>exact p
theorem Ahn (h:Inv n R M F G H a w) {t:Nat} {W:T->Prop} (hf:Aaa G t=some (getT G t)) (hw:W (getT G t)) :
  Took n R M (kill (put0 F t .undef) t []) G H a w W (getT G t).erase (getT G t).val:=by
 obtain ⟨r,q1,q2⟩:=Ad6 G t
 let u:T:=.leaf .undef (getT G t).val
 have hperm:(Aa0 (Aa7 G t u)++((getT G t).blocks++H)).Perm (Aa0 G++H):=by
  refine ((q2 u).symm.append_right _).trans ?_;refine List.Perm.trans ?_ (q1.append_right H);simp only [u,T.blocks,List.nil_append,List.append_assoc];exact List.perm_append_comm_assoc _ _ _
 have:=h.upd (Mem.le_refl M) t u (deadAt t []) (Aun G t u) (by simp [u,T.tidy]) (by simp [u,Aao,LOK,L1]) (h.blk.perm hperm.symm) h.mem h.size h.defers (show if t<n then a.tmps[t]? = some (getT G t).val else R t=(getT G t).val from h.vals t _ hf) (fun _ _=>rfl);exact ⟨getT G t,_,rfl,rfl,h.tidyG t,hw,this,by rw [Aay];exact Sub.of_perm hperm⟩
theorem Avj {t:T} {M:Mem} {G:FT} (h:Aao M G t) {d:D} {v:Value} (e:t=.leaf d v):LOK M G d v:=by subst e;exact h
theorem Afr {t:T} {d:D} (h:t.erase=d) (h1:d.ex1=false) (h2:∀ cs,d≠.agg cs) (h3:∀ cs,d≠.tup cs):t=.leaf d t.val:=by
 cases t with
 | leaf d' v=>simp only [T.erase] at h;subst h;rfl
 | agg=>exact absurd h.symm (h2 _)
 | tup=>exact absurd h.symm (h3 _)
 | _=>subst h;simp [T.erase,D.ex1] at h1
theorem Aw9 (h:Inv n R M F G H a w) {t:Nat} {v:Value} {d:D} (hh:holds n R a t v) (ht:takeSlot F t (Own.get F t)=some (d,F')):Took n R M F' G H a w (Giv M) d v:=by
 have hok:=h.okG t;have htd:=h.tidyG t;have key:getT G t≠noT->Aaa G t=some (getT G t)/\(getT G t).val=v:=fun hne=>
  ⟨Acl hne,(h.holds (Acl hne)).eq hh⟩
 have leafy:∀ d',Own.get F t=d'->d'.ex1=false->(∀ cs,d'≠.agg cs)->(∀ cs,d'≠.tup cs)->d'≠.undef->getT G t=.leaf d' v/\LOK M G d' v:=fun d' he h1 h2 h3 h4=>by
  rw [h.get] at he;have e:=Afr he h1 h2 h3;have hne:getT G t≠noT:=by rw [e,noT];intro hh;injection hh with hh;exact h4 hh
  rw [(key hne).2] at e;exact ⟨e,Avj hok e⟩
 have whole:∀ d',Own.get F t=d'->d'.ex1=true->some (d',kill (put0 F t .undef) t [])=some (d,F')->Took n R M F' G H a w (Giv M) d v:=fun d' he h1 h2=>by
  simp only [zJ,Prod.mk.injEq] at h2;obtain ⟨rfl,rfl⟩:=h2;rw [h.get] at he;have hne:getT G t≠noT:=by intro hz;rw [hz] at he;simp [noT,T.erase] at he;subst he;simp [D.ex1] at h1
  obtain ⟨hf,hv⟩:=key hne;have:=Ahn h (W:=Giv M) hf (by
   cases ht':getT G t with
   | leaf d0 v0=>rw [ht'] at htd he;simp only [T.erase] at he;subst he;cases d0<;>simp_all [T.tidy,D.ex1]
   | agg=>rw [ht'] at he;simp [T.erase] at he;subst he;simp [D.ex1] at h1
   | tup=>rw [ht'] at he;simp [T.erase] at he;subst he;simp [D.ex1] at h1
   | _=>rw [ht'] at hok;exact hok)
  rw [he,hv] at this;exact this
 cases hg:Own.get F t with
 | agg cs=>
  rw [hg] at ht;simp only [takeSlot] at ht;have hg':=hg;rw [h.get] at hg';obtain ⟨ts,e1,e2⟩:=Asf htd hg';have hne:getT G t≠noT:=by rw [e1,noT];simp
  obtain ⟨hf,hv⟩:=key hne
  split at ht
  ·split at ht
   ·cases ht
   ·rename_i hp;simp only [zJ,Prod.mk.injEq] at ht;obtain ⟨rfl,rfl⟩:=ht;have:=Ahn h (W:=Giv M) hf (by
     rw [e1] at hok ⊢;rw [Giv,T.wfC_iff];intro c hc;have hcell:=hok c hc;have hnp:(T.erase c).pts1=false:=by
      have:=hp;simp only [List.any_eq_true,not_exists,not_and,Bool.not_eq_true] at this;exact this _ (by rw [← e2];exact List.mem_map.2 ⟨c,hc,rfl⟩)
     cases c with
     | leaf d0 v0=>
      simp only [T.erase] at hnp;obtain ⟨k1,k2⟩:=hcell;cases d0 with
      | undef=>exact .inl ⟨rfl,k2⟩
      | alias=>simp [D.pts1] at hnp
      | sub=>simp [D.pts1] at hnp
      | place=>simp [D.pts1] at hnp
      | _=>exact .inr k1
     | _=>exact hcell)
    rw [hg',hv] at this;exact this
  ·cases hk:takeCells F t 0 cs.length with
   | none=>simp [hk] at ht
   | some r=>
    obtain ⟨cs',F1⟩:=r;simp only [hk,zJ,Prod.mk.injEq] at ht;obtain ⟨rfl,rfl⟩:=ht;have hva:v=.agg (T.vals ts).toArray:=by rw [← hv,e1];simp [T.val]
    rw [hva] at hh;obtain ⟨ts',G',c1,c2,c3,c4,c5,c6⟩:=An6 _ _ h hh hk;refine ⟨.agg ts',G',by simp [T.erase,T.eraseC_eq,c1],?_,c3,c4,by simpa [T.blocks] using c5,by simpa [T.blocks] using c6⟩;have hl:cs.length=(T.vals ts).length:=by rw [← e2];simp
    simp only [T.val,c2,hva,List.drop_zero,hl,List.take_length]
 | fn f cs=>
  obtain ⟨e,hl⟩:=leafy _ hg rfl (by simp) (by simp) (by simp);rw [hg] at ht;simp only [takeSlot] at ht
  split at ht
  ·cases ht
  ·rename_i hb;simp only [zJ,Prod.mk.injEq] at ht;obtain ⟨rfl,rfl⟩:=ht;obtain ⟨vs,h1,h2⟩:=hl;exact Took.here h (t:=.leaf (.fn f cs) v) (by simp [T.blocks]) (by simp [T.tidy]) (show RI M _ v by simp only [RI];exact ⟨vs,h1,Ajt h2 (by simpa using hb)⟩)
 | own es=>exact whole _ hg rfl (by rw [hg] at ht;simpa [takeSlot] using ht)
 | box es=>exact whole _ hg rfl (by rw [hg] at ht;simpa [takeSlot] using ht)
 | map es=>exact whole _ hg rfl (by rw [hg] at ht;simpa [takeSlot] using ht)
 | bld t0 e0 l0=>exact whole _ hg rfl (by rw [hg] at ht;simpa [takeSlot] using ht)
 | alias s ps=>
  obtain ⟨e,hl⟩:=leafy _ hg rfl (by simp) (by simp) (by simp);rw [hg] at ht;exact (An5 h hl ht).imp fun t _ k=>Aca k.1 k.2
 | sub s ps x y=>
  obtain ⟨e,hl⟩:=leafy _ hg rfl (by simp) (by simp) (by simp);rw [hg] at ht;exact (Alr h hl ht).imp fun t _ k=>Aca k.1 k.2
 | lit x=>
  obtain ⟨e,hl⟩:=leafy _ hg rfl (by simp) (by simp) (by simp);rw [hg] at ht;simp only [takeSlot,zJ,Prod.mk.injEq] at ht;obtain ⟨rfl,rfl⟩:=ht;exact Took.here h (t:=.leaf (.lit x) v) (by simp [T.blocks]) (by simp [T.tidy]) hl
 | sl x=>
  obtain ⟨e,hl⟩:=leafy _ hg rfl (by simp) (by simp) (by simp);rw [hg] at ht;simp only [takeSlot,zJ,Prod.mk.injEq] at ht;obtain ⟨rfl,rfl⟩:=ht;exact Took.here h (t:=.leaf (.sl x) v) (by simp [T.blocks]) (by simp [T.tidy]) hl
 | ref x=>
  obtain ⟨e,hl⟩:=leafy _ hg rfl (by simp) (by simp) (by simp);rw [hg] at ht;simp only [takeSlot,zJ,Prod.mk.injEq] at ht;obtain ⟨rfl,rfl⟩:=ht;exact Took.here h (t:=.leaf (.ref x) v) (by simp [T.blocks]) (by simp [T.tidy]) hl
 | undef=>rw [hg] at ht;simp [takeSlot] at ht
 | place=>rw [hg] at ht;simp [takeSlot] at ht
 | tup=>rw [hg] at ht;simp [takeSlot] at ht
theorem Az2 {M:Mem} {v:Value} (h:constOK v=true):∃ t:T,t.erase=constD v/\t.val=v/\t.tidy/\Giv M t/\t.blocks=[]:=by
 have one:∀ v:Value,v.oneCell'=true->∃ t:T,t.erase=const1 v/\t.val=v/\t.tidy/\T.wf M t/\Giv M t/\t.blocks=[]:=fun v hv=>by
  unfold const1
  split
  ·rename_i hn;have:v=.slice none 0 0:=by
    unfold nilSlice at hn
    split at hn
    ·rfl
    ·simp at hn
   subst this;exact ⟨.nil,by simp [T.erase],by simp [T.val],by simp [T.tidy],by simp [T.wf],by simp [Giv,T.wf],by simp [T.blocks]⟩
  ·exact ⟨.leaf (.lit v) v,by simp [T.erase],by simp [T.val],by simp [T.tidy],.inr (by simp only [RI];exact ⟨trivial,hv⟩),(by simp only [Giv,RI];exact ⟨trivial,hv⟩),by simp [T.blocks]⟩
 cases v with
 | agg cs=>
  simp only [constOK,List.all_eq_true] at h;have:∀ l:List Value,(∀ x∈l,x.oneCell'=true)->∃ ts:List T,ts.map T.erase=l.map const1/\T.vals ts=l/\T.tidyC ts/\T.wfC M ts/\T.blocksC ts=[]:=by
   intro l
   induction l with
   | nil=>intro _;exact ⟨[],rfl,rfl,trivial,trivial,by simp [T.blocksC]⟩
   | cons c l ih=>
    intro hl;obtain ⟨t,a1,a2,a3,a4,_,a5⟩:=one c (hl c (by simp));obtain ⟨ts,b1,b2,b3,b4,b5⟩:=ih fun x hx=>hl x (by simp [hx]);exact ⟨t::ts,by simp [a1,b1],by simp [T.vals,a2,b2],⟨a3,b3⟩,⟨a4,b4⟩,by simp [T.blocksC,a5,b5]⟩
  obtain ⟨ts,b1,b2,b3,b4,b5⟩:=this cs.toList h;exact ⟨.agg ts,by simp [T.erase,T.eraseC_eq,b1,constD],by simp [T.val,b2],b3,b4,by simp [T.blocks,b5]⟩
 | _=>
  simp only [constOK] at h;obtain ⟨t,a1,a2,a3,_,a4,a5⟩:=one _ h;exact ⟨t,a1,a2,a3,a4,a5⟩
theorem Inv.eval_holds (h:Inv n R M F G H a w) {t:Nat} (ht:t<n):Own.holds n R a t (a.eval (.tmp t)):=by
 unfold Own.holds;rw [if_pos ht];have:t<a.tmps.size:=by rw [h.size];exact ht
 simp [Act.eval,Array.getD_eq_getD_getElem?,Array.getElem?_eq_getElem this]
theorem Af5 {E:Env} (h:Inv n R M F G H a w) {x:Operand} (hx:Fits n x) {d:D} (ht:takeOp E F x=some (d,F')):Took n R M F' G H a w (Giv M) d (a.eval x):=by
 cases x with
 | tmp t=>exact Aw9 h (h.eval_holds (hx t rfl)) ht
 | const v=>
  simp only [takeOp] at ht
  split at ht
  ·rename_i hc;simp only [zJ,Prod.mk.injEq] at ht;obtain ⟨rfl,rfl⟩:=ht;obtain ⟨t,a1,a2,a3,a4,a5⟩:=Az2 (M:=M) hc;have:=Took.here h (W:=Giv M) a5 a3 a4;rw [a1,a2] at this;exact this
  ·cases ht
 | func f=>
  simp only [takeOp,zJ,Prod.mk.injEq] at ht;obtain ⟨rfl,rfl⟩:=ht;exact Took.here h (t:=.leaf (.fn f []) (.func (.func f) #[] #[])) (by simp [T.blocks]) (by simp [T.tidy]) (show RI M _ _ by simp only [RI];exact ⟨[],rfl,by simp [RCs]⟩)
 | global g=>simp [takeOp] at ht
theorem Aj2 {E:Env}:∀ (ps:List (Nat×Operand)) {F:Fr} {G:FT} {H:Blks} {F':Fr} {ds:List (Nat×D)},Inv n R M F G H a w->(∀ p∈ps,Fits n p.2)->takeParts E F ps=some (ds,F') ->
  ∃ (ts:List (Nat×T)) (G':FT),ts.map (fun x=>(x.1,x.2.erase))=ds/\ts.map (fun x=>(x.1,x.2.val))=ps.map (fun p=>(p.1,a.eval p.2))/\(∀ x∈ts,x.2.tidy/\Giv M x.2)/\Inv n R M F' G' (T.blocksC (ts.map Prod.snd)++H) a w/\Sub (Aa0 G'++(T.blocksC (ts.map Prod.snd)++H)) (Aa0 G++H)
 | [],F,G,H,F',ds,h,_,ht=>by
  simp only [takeParts,zJ,Prod.mk.injEq] at ht;obtain ⟨rfl,rfl⟩:=ht;exact ⟨[],G,rfl,rfl,by simp,by simpa [T.blocksC] using h,by simpa [T.blocksC] using Sub.refl _⟩
 | (i,x)::ps,F,G,H,F',ds,h,hp,ht=>by
  simp only [takeParts] at ht;cases hk:takeOp E F x with
  | none=>simp [hk] at ht
  | some r=>
   obtain ⟨d,F1⟩:=r;simp only [hk] at ht;cases hr:takeParts E F1 ps with
   | none=>simp [hr] at ht
   | some r2=>
    obtain ⟨ds',F2⟩:=r2;simp only [hr,zJ,Prod.mk.injEq] at ht;obtain ⟨rfl,rfl⟩:=ht;obtain ⟨t1,G1,b1,b2,b3,b4,b5,b6⟩:=Af5 h (hp (i,x) (by simp)) hk;obtain ⟨ts,G2,c1,c2,c3,c4,c5⟩:=Aj2 ps b5 (fun p hp'=>hp p (by simp [hp'])) hr;refine ⟨(i,t1)::ts,G2,by simp [b1,c1],by simp [b2,c2],?_,?_,?_⟩
    ·intro y hy;rcases List.mem_cons.1 hy with rfl | hy
     ·exact ⟨b3,b4⟩
     ·exact c3 y hy
    ·refine { c4 with blk:=?_ };refine c4.blk.perm (List.Perm.append_left _ ?_);simp only [List.map_cons,T.blocksC,List.append_assoc];exact List.perm_append_comm_assoc _ _ _
    ·refine Sub.trans (Sub.of_perm ?_) (c5.trans b6);refine List.Perm.append_left _ ?_;simp only [List.map_cons,T.blocksC,List.append_assoc];exact List.perm_append_comm_assoc _ _ _
end
end Go.Own
