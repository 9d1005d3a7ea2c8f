/- An interpreter of function bodies, sound. No conditions. -/
import Derived.WalkKit
import Derived.Test.YtcbhcnkfefbddaaGreatDoorOwn3
set_option linter.all false
open List renaming append_assoc->aA,mem_of_getElem?->aM,perm_append_comm->ba,perm_append_comm_assoc->bB,getElem?_eq_some_iff->bL,mem_or_eq_of_mem_set->b3,getElem?_map->cc,mem_map->cu,length->cx,map_cons->cD,mem_of_mem_drop->cA,mem_of_mem_take->cT,set_eq_take_append_cons_drop->c_,cons_append->dn,length_take->du,map_set->dR,map_append->eb,length_map->eW,length_append->fB,mem_append->fR,nil_append->gD,getElem?_set_self->fW,take_append_drop->hb,mem_append_left->hP,take_succ_cons->hQ,flatMap_cons->hR,nodup_append->ig,flatMap_def->hq,flatMap_map->iZ,all_eq_true->kf,length_drop->jr,append_nil->kH
open Prod.mk renaming injEq->aQ
open List.Perm renaming append_right->a6,append_left->b5,trans->cz,cons->lI
open Option renaming map_some->bo
open Array renaming getElem?_setIfInBounds->fx,getD_eq_getD_getElem?->gj,getElem?_eq_some_iff->gC
open Bool renaming true_and->hF
open Nat renaming le_trans->hc,succ_mul->ie
open List.cons renaming injEq->mS
open Prod renaming fst->mi
namespace Go.aS
open D
abbrev Mem:=Nat->Option Obj
def Mem.le(M M':Mem):Prop:=∀g o,M g=some o->M' g=some o
theorem Mem.le_refl(M:Mem):M.le M:=λ_ _ h=>h
theorem Mem.le_trans{b1 M2 nR:Mem}(h:b1.le M2)(k:M2.le nR):b1.le nR:=λg o e=>k g o (h g o e)
def At(M:Mem)(g b:Nat)(vs:List Value):Prop:=∃cs e fr,M g=some (.cells cs e fr)/\∀j u,vs[j]?=some u->cs[b+j]?=some u
theorem At.mono{M M':Mem}(h:M.le M'){g b:Nat}{vs:List Value}(k:At M g b vs):At M' g b vs:=by
 obtain⟨cs,e,fr,I,aa⟩:=k;exact⟨cs,e,fr,h _ _ I,aa⟩
mutual
def bu(M:Mem):D->Value->Prop
 | .lit v,u=>u=v/\v.oneCell'=true
 | .sl es,u=>∃A n c,u=.slice A n c/\n=es.length/\n<=c/\n<=maxLen/\(es=[]∨∃g b k vs,A=some ⟨g,b,none⟩/\At M g b vs/\0<k/\(∀x∈es,x.length=k)/\fo M es vs)
 | .ref cs,u=>∃g b vs,u=.pointer (some ⟨g,b,none⟩)/\At M g b vs/\c4 M cs vs
 | .fn f cs,u=>∃vs,u=.func (.func f) #[] vs.toArray/\c4 M cs vs
 |_,_=>False
def c4(M:Mem):List D->List Value->Prop
 |[],vs=>vs=[]
 |c::cs,vs=>∃v k9,vs=v::k9/\bu M c v/\c4 M cs k9
def fo(M:Mem):List (List D)->List Value->Prop
 |[],vs=>vs=[]
 |e::es,vs=>∃v1 v2,vs=v1++v2/\c4 M e v1/\fo M es v2
end
theorem bu.one{M:Mem}{d:D}{v:Value}(h:bu M d v):v.oneCell'=true:=by
 cases d<;>simp only[bu]at h
 case lit=>rw[h.1];exact h.2
 case sl=>obtain⟨A,n,c,rfl,_⟩:=h;rfl
 case ref=>obtain⟨g,b,vs,rfl,_⟩:=h;rfl
 case fn=>obtain⟨vs,rfl,_⟩:=h;rfl
mutual
theorem bu.mono{M M':Mem}(h:M.le M'):∀(d:D)(v:Value),bu M d v->bu M' d v
 | .lit v,u,k=>by simp only[bu]at k⊢;exact k
 | .sl es,u,k=>by
  simp only[bu]at k⊢;obtain⟨A,n,c,I,aa,aB,aW,k⟩:=k;refine⟨A,n,c,I,aa,aB,aW,?_⟩;rcases k with k|⟨g,b,q,vs,a,iA,c',bf,e'⟩
  .exact .inl k
  .exact .inr ⟨g,b,q,vs,a,iA.mono h,c',bf,fo.mono h es vs e'⟩
 | .ref cs,u,k=>by
  simp only[bu]at k⊢;obtain⟨g,b,vs,I,aa,aB⟩:=k;exact⟨g,b,vs,I,aa.mono h,c4.mono h cs vs aB⟩
 | .fn f cs,u,k=>by
  simp only[bu]at k⊢;obtain⟨vs,I,aa⟩:=k;exact⟨vs,I,c4.mono h cs vs aa⟩
 | .undef,_,k=>by simp[bu]at k
 | .own _,_,k=>by simp[bu]at k
 | .agg _,_,k=>by simp[bu]at k
 | .box _,_,k=>by simp[bu]at k
 | .map _,_,k=>by simp[bu]at k
 | .bld ..,_,k=>by simp[bu]at k
 | .bt _,_,k=>by simp[bu]at k
 | .alias ..,_,k=>by simp[bu]at k
 | .sub ..,_,k=>by simp[bu]at k
 | .place ..,_,k=>by simp[bu]at k
theorem c4.mono{M M':Mem}(h:M.le M'):∀(cs:List D)(vs:List Value),c4 M cs vs->c4 M' cs vs
 |[],vs,k=>by simp only[c4]at k⊢;exact k
 |c::cs,vs,k=>by
  simp only[c4]at k⊢;obtain⟨v,k9,I,aa,aB⟩:=k;exact⟨v,k9,I,bu.mono h c v aa,c4.mono h cs k9 aB⟩
theorem fo.mono{M M':Mem}(h:M.le M'):∀(es:List (List D))(vs:List Value),fo M es vs->fo M' es vs
 |[],vs,k=>by simp only[fo]at k⊢;exact k
 |e::es,vs,k=>by
  simp only[fo]at k⊢;obtain⟨v1,v2,I,aa,aB⟩:=k;exact⟨v1,v2,I,c4.mono h e v1 aa,fo.mono h es v2 aB⟩
end
inductive T where
 |leaf (d:D) (v:Value)
 |own (g cap e:Nat) (sp:List Value) (es:List (List T))
 |nil
 |agg (cs:List T)
 |box (g e:Nat) (cs:List T)
 |map (r clock:Nat) (es:List (Value×Nat×D×Value))
 |bld (v:Value) (bs:List (Nat×Obj)) (t e:Nat) (l:List UInt8)
 |bt (az:List T)
 deriving Inhabited
namespace T
mutual
def val:T->Value
 |leaf _ v=>v
 |own g cap _ _ es=>.slice (some ⟨g,0,none⟩) es.length cap
 |nil=>.slice none 0 0
 |agg cs=>.agg (bP cs).toArray
 |box g _ _=>.pointer (some ⟨g,0,none⟩)
 |map r _ _=>.map (some r)
 |bld v _ _ _ _=>v
 |bt az=>.tuple (bP az).toArray
def bP:List T->List Value
 |[]=>[]
 |t::ts=>val t::bP ts
end
def bH:List (List T)->List Value
 |[]=>[]
 |e::es=>bP e++bH es
def entries(es:List (Value×Nat×D×Value)):Array MapEntry:=(es.map λx=>{ key:=x.1,val:=x.2.2.2,born:=x.2.1 }).toArray
mutual
def blocks:T->List (Nat×Obj)
 |leaf _ _=>[]
 |own g _ e sp es=>(g,.cells (bH es++sp).toArray e (0,0))::cO es
 |nil=>[]
 |agg cs=>bq cs
 |box g e cs=>(g,.cells (bP cs).toArray e (0,0))::bq cs
 |map r clock es=>[(r,.map (entries es) clock)]
 |bld _ bs _ _ _=>bs
 |bt az=>bq az
def bq:List T->List (Nat×Obj)
 |[]=>[]
 |t::ts=>blocks t++bq ts
def cO:List (List T)->List (Nat×Obj)
 |[]=>[]
 |e::es=>bq e++cO es
end
mutual
def erase:T->D
 |leaf d _=>d
 |own _ _ _ _ es=>.own (px es)
 |nil=>.own []
 |agg cs=>.agg (g7 cs)
 |box _ _ cs=>.box (g7 cs)
 |map _ _ es=>.map (es.map λx=>(x.1,x.2.2.1))
 |bld _ _ t e l=>.bld t e l
 |bt az=>.bt (g7 az)
def g7:List T->List D
 |[]=>[]
 |t::ts=>erase t::g7 ts
def px:List (List T)->List (List D)
 |[]=>[]
 |e::es=>g7 e::px es
end
theorem ny(ts:List T):bP ts=ts.map val:=by induction ts<;>simp[bP, *]
theorem Jt(es:List (List T)):bH es=es.flatMap bP:=by induction es<;>simp[bH, *]
theorem sW(ts:List T):bq ts=ts.flatMap blocks:=by induction ts<;>simp[bq, *]
theorem agM(es:List (List T)):cO es=es.flatMap bq:=by induction es<;>simp[cO, *]
theorem hz(ts:List T):g7 ts=ts.map erase:=by induction ts<;>simp[g7, *]
theorem lU(es:List (List T)):px es=es.map (·.map erase):=by induction es<;>simp[px,hz, *]
@[simp] theorem amc(ts:List T):(g7 ts).length=ts.length:=by simp[hz]
@[simp] theorem ahi(ts:List (List T)):(px ts).length=ts.length:=by simp[lU]
@[simp] theorem XJ(ts:List T):(bP ts).length=ts.length:=by simp[ny]
theorem XI(a b:List T):bP (a++b)=bP a++bP b:=by simp[ny]
theorem tP(a b:List (List T)):bH (a++b)=bH a++bH b:=by simp[Jt]
theorem wS(a b:List T):bq (a++b)=bq a++bq b:=by simp[sW]
theorem sX(a b:List (List T)):cO (a++b)=cO a++cO b:=by simp[agM]
def OQ:Value->Bool
 | .int _ _=>true
 | .string _=>true
 |_=>false
def plainKey:Value->Bool
 | .agg cs=>cs.toList.all OQ
 |v=>OQ v
def Dt(v:Value)(bs:List (Nat×Obj))(t e:Nat)(l:List UInt8):Prop:=
 ∃g p,v=.pointer (some ⟨g,0,none⟩)/\(p=.pointer none∨p=v)/\((l=[]/\bs=[(g,.cells #[p,.slice none 0 0] t (0,0))]) ∨
  ∃b cap cur,bs=[(g,.cells #[p,.slice (some ⟨b,0,none⟩) l.length cap] t (0,0)),(b,.cells cur e (0,0))]/\l.length<=cap/\cap<=maxLen/\cur.size=cap/\cur.toList.take l.length=l.map λc=>Value.int .u8 c.toNat)
mutual
def wf(M:Mem):T->Prop
 |leaf d v=>(d=.undef/\v.oneCell'=true)∨bu M d v
 |own _ cap _ sp es=>(∃k,0<k/\(∀x∈es,x.length=k)/\sp.length+es.length*k=cap*k)/\(es.length<=cap/\(es.length=0->cap=0))/\cap<=maxLen/\(∀u∈sp,u.oneCell'=true)/\ha M es
 |nil=>True
 |agg _=>False
 |box _ _ cs=>ga M cs
 |map _ _ es=>∀x∈es,plainKey x.1=true/\Cg M x.2.2.1 x.2.2.2
 |bld v bs t e l=>Dt v bs t e l
 |bt _=>False
def ga(M:Mem):List T->Prop
 |[]=>True
 |t::ts=>wf M t/\ga M ts
def ha(M:Mem):List (List T)->Prop
 |[]=>True
 |e::es=>ga M e/\ha M es
def Cg(M:Mem):D->Value->Prop
 | .agg cs,u=>∃vs,u=.agg vs.toArray/\c4 M cs vs
 | .own [],u=>u=.slice none 0 0
 |d,u=>bu M d u
end
end T
end Go.aS
namespace Go.aS
open D
theorem Aa{O:Type}{l:List O}{i:Nat}{a:O}(h:l[i]?=some a):l.set i a=l:=by
 obtain⟨hi,rfl⟩:=bL.1 h;exact List.set_getElem_self hi
namespace T
def elem:T->Nat->Option (List T)
 |own _ _ _ _ es,i=>es[i]?
 |box _ _ cs,0=>some cs
 |agg cs,0=>some cs
 |bt cs,0=>some cs
 |_,_=>none
def df:T->Nat->List T->Option T
 |own g cap e sp es,i,cs=>some (own g cap e sp (es.set i cs))
 |box g e _,0,cs=>some (box g e cs)
 |agg _,0,cs=>some (agg cs)
 |bt _,0,cs=>some (bt cs)
 |nil,_,_=>some nil
 |_,_,_=>none
def bw:T->Path->Option T
 |t,[]=>some t
 |t,(i,o)::ps=>match t.elem i with
  |some cs=>match cs[o]? with
   |some c=>bw c ps
   |none=>none
  |none=>none
def cy:T->Path->T->Option T
 |_,[],x=>some x
 |t,(i,o)::ps,x=>match t.elem i with
  |some cs=>match cs[o]? with
   |some c=>match cy c ps x with
    |some c'=>t.df i (cs.set o c')
    |none=>none
   |none=>none
  |none=>none
mutual
def tidy:T->Prop
 |leaf d _=>match d with
  | .own _| .box _| .agg _| .bt _| .map _| .bld ..=>False
  |_=>True
 |own _ _ _ _ es=>iv es
 |nil=>True
 |agg cs=>ho cs
 |box _ _ cs=>ho cs
 |map _ _ _=>True
 |bld _ _ _ _ _=>True
 |bt az=>ho az
def ho:List T->Prop
 |[]=>True
 |t::ts=>tidy t/\ho ts
def iv:List (List T)->Prop
 |[]=>True
 |e::es=>ho e/\iv es
end
theorem o4(ts:List T):ho ts↔∀t∈ts,tidy t:=by induction ts<;>simp[ho, *]
theorem q4(es:List (List T)):iv es↔∀e∈es,ho e:=by induction es<;>simp[iv, *]
theorem q6(M:Mem)(ts:List T):ga M ts↔∀t∈ts,wf M t:=by induction ts<;>simp[ga, *]
theorem mR(M:Mem)(es:List (List T)):ha M es↔∀e∈es,ga M e:=by induction es<;>simp[ha, *]
theorem MZ(t:T)(al:tidy t)(i:Nat):(erase t).elem i=(t.elem i).map g7:=by
 cases t with
 |leaf d v=>
  cases d<;>simp_all [tidy,erase,D.elem,elem]
 |own g cap e sp es=>simp[erase,D.elem,elem,lU,funext hz]
 |nil=>simp[erase,D.elem,elem]
 |agg cs=>cases i<;>simp[erase,D.elem,elem]
 |box g e cs=>cases i<;>simp[erase,D.elem,elem]
 |map r c es=>simp[erase,D.elem,elem]
 |bld v0 m8 t0 gn iG=>simp[erase,D.elem,elem]
 |bt cs=>cases i<;>simp[erase,D.elem,elem]
theorem zz{t:T}(al:tidy t){i:Nat}{cs:List T}(h:t.elem i=some cs):ho cs:=by
 cases t with
 |leaf d v=>simp[elem]at h
 |own g cap e sp es=>
  simp only[elem]at h;simp only[tidy]at al;exact(q4 es).1 al cs (aM h)
 |nil=>simp[elem]at h
 |agg b8=>cases i<;>simp[elem]at h;subst h;exact al
 |box g e b8=>cases i<;>simp[elem]at h;subst h;exact al
 |map r c es=>simp[elem]at h
 |bld v0 m8 t0 gn iG=>simp[elem]at h
 |bt b8=>cases i<;>simp[elem]at h;subst h;exact al
theorem Vt:∀(ps:Path)(t:T),tidy t->(erase t).bw ps=(t.bw ps).map erase
 |[],t,_=>by simp[D.bw,bw]
 |(i,o)::ps,t,al=>by
  simp only[D.bw,bw,MZ t al i];cases h:t.elem i with
  |none=>simp
  |some cs=>
   have ad:=zz al h;simp only[bo,hz,cc];cases Nz:cs[o]? with
   |none=>simp
   |some c=>simpa using Vt ps c ((o4 cs).1 ad c (aM Nz))
theorem Jn:∀(ps:Path){t c:T},tidy t->t.bw ps=some c->tidy c
 |[],t,c,al,h=>by simp[bw]at h;subst h;exact al
 |(i,o)::ps,t,c,al,h=>by
  simp only[bw]at h;cases hi:t.elem i with
  |none=>simp[hi]at h
  |some cs=>
   simp only[hi]at h;cases an:cs[o]? with
   |none=>simp[an]at h
   |some cF=>
    simp only[an]at h;exact Jn ps ((o4 cs).1 (zz al hi) cF (aM an)) h
theorem Xr(t:T)(al:tidy t)(i:Nat)(cs:List T):(erase t).df i (g7 cs)=(t.df i cs).map erase:=by
 cases t with
 |leaf d v=>cases d<;>simp_all [tidy,erase,D.df,df]
 |own g cap e sp es=>simp[erase,D.df,df,lU,hz,dR]
 |nil=>simp[erase,D.df,df]
 |agg b8=>cases i<;>simp[erase,D.df,df]
 |box g e b8=>cases i<;>simp[erase,D.df,df]
 |map r c es=>simp[erase,D.df,df]
 |bld v0 m8 t0 gn iG=>simp[erase,D.df,df]
 |bt b8=>cases i<;>simp[erase,D.df,df]
theorem Xt:∀(ps:Path)(t x:T),tidy t->(erase t).cy ps (erase x)=(t.cy ps x).map erase
 |[],t,x,_=>by simp[D.cy,cy]
 |(i,o)::ps,t,x,al=>by
  simp only[D.cy,cy,MZ t al i];cases h:t.elem i with
  |none=>simp
  |some cs=>
   have ad:=zz al h;simp only[bo,hz,cc];cases Nz:cs[o]? with
   |none=>simp
   |some c=>
    simp only[bo,Xt ps c x ((o4 cs).1 ad c (aM Nz))];cases ae:c.cy ps x with
    |none=>simp
    |some c'=>
     simp only[bo];rw[<-Xr t al i (cs.set o c'),hz,dR]
theorem XE{t bz:T}(al:tidy t){i:Nat}{cs:List T}(ad:ho cs)(h:t.df i cs=some bz):tidy bz:=by
 cases t with
 |leaf d v=>simp[df]at h
 |own g cap e sp es=>
  simp only[df,aE]at h;subst h;simp only[tidy]at al⊢;rw[q4]at al⊢;intro x U;rcases b3 U with U|rfl
  .exact al x U
  .exact ad
 |nil=>simp[df]at h;subst h;simp[tidy]
 |agg b8=>cases i<;>simp[df]at h;subst h;exact ad
 |box g e b8=>cases i<;>simp[df]at h;subst h;exact ad
 |map r c es=>simp[df]at h
 |bld v0 m8 t0 gn iG=>simp[df]at h
 |bt b8=>cases i<;>simp[df]at h;subst h;exact ad
theorem aby{cs:List T}(h:ho cs){o:Nat}{c:T}(ad:tidy c):ho (cs.set o c):=by
 rw[o4]at h⊢;intro x U;rcases b3 U with U|rfl
 .exact h x U
 .exact ad
theorem XF:∀(ps:Path){t bz x:T},tidy t->tidy x->t.cy ps x=some bz->tidy bz
 |[],t,bz,x,_,U,h=>by simp[cy]at h;subst h;exact U
 |(i,o)::ps,t,bz,x,al,U,h=>by
  simp only[cy]at h;cases hi:t.elem i with
  |none=>simp[hi]at h
  |some cs=>
   simp only[hi]at h;cases an:cs[o]? with
   |none=>simp[an]at h
   |some c=>
    simp only[an]at h;cases ae:c.cy ps x with
    |none=>simp[ae]at h
    |some c'=>
     simp only[ae]at h;have ad:=zz al hi;exact XE al (aby ad (XF ps ((o4 cs).1 ad c (aM an)) U ae)) h
theorem Zc{cs:List T}{o:Nat}{c:T}(h:cs[o]?=some c):∃r,(blocks c++r).Perm (bq cs)/\∀c',(blocks c'++r).Perm (bq (cs.set o c')):=by
 have an:o<cs.length:=(bL.1 h).1;have r0:∀c',cs.set o c'=cs.take o++c'::cs.drop (o+1):=λc'=>by rw[c_,if_pos an]
 have ku:cs=cs.take o++c::cs.drop (o+1):=by
  have:=r0 c;rw[Aa h]at this;exact this
 refine⟨bq (cs.take o)++bq (cs.drop (o+1)),?_,λc'=>?_⟩
 .conv=>rhs;rw[ku]
  rw[wS];simp only[bq];rw[<-aA,<-aA];exact a6 _ ba
 .rw [r0 c',wS];simp only[bq];rw[<-aA,<-aA];exact a6 _ ba
theorem MQ{es:List (List T)}{i:Nat}{e:List T}(h:es[i]?=some e):∃r,(bq e++r).Perm (cO es)/\∀e',(bq e'++r).Perm (cO (es.set i e')):=by
 have an:i<es.length:=(bL.1 h).1;have r0:∀c',es.set i c'=es.take i++c'::es.drop (i+1):=λc'=>by rw[c_,if_pos an]
 have ku:es=es.take i++e::es.drop (i+1):=by
  have:=r0 e;rw[Aa h]at this;exact this
 refine⟨cO (es.take i)++cO (es.drop (i+1)),?_,λc'=>?_⟩
 .conv=>rhs;rw[ku]
  rw[sX];simp only[cO];rw[<-aA,<-aA];exact a6 _ ba
 .rw [r0 c',sX];simp only[cO];rw[<-aA,<-aA];exact a6 _ ba
theorem acT{cs:List T}{o:Nat}{c c':T}(h:cs[o]?=some c)(av:val c'=val c):bP (cs.set o c')=bP cs:=by
 rw[ny,ny,dR,av];exact Aa (by rw[cc,h];rfl)
theorem abD{es:List (List T)}{i:Nat}{e e':List T}(h:es[i]?=some e)(av:bP e'=bP e):bH (es.set i e')=bH es:=by
 rw[Jt,Jt,hq,hq,dR,av];rw[Aa (by rw[cc,h];rfl)]
theorem YA{t:T}{i:Nat}{cs:List T}(h:t.elem i=some cs):∃r,(bq cs++r).Perm (blocks t) /\
  ∀b8,bP b8=bP cs->∃bz,t.df i b8=some bz/\val bz=val t/\(bq b8++r).Perm (blocks bz):=by
 cases t with
 |leaf d v=>simp[elem]at h
 |own g cap e sp es=>
  simp only[elem]at h;obtain⟨r,pL,mG⟩:=MQ h;refine⟨(g,.cells (bH es++sp).toArray e (0,0))::r,?_,λb8 av=>⟨_,rfl,by simp[val],?_⟩⟩
  .simp only[blocks];exact List.perm_middle.trans (lI _ pL)
  .simp only[blocks,abD h av];exact List.perm_middle.trans (lI _ (mG b8))
 |nil=>simp[elem]at h
 |agg b8=>
  cases i<;>simp[elem]at h;subst h;exact⟨[],by simp[blocks],λVa av=>⟨_,rfl,by simp[val,av],by simp[blocks]⟩⟩
 |box g e b8=>
  cases i<;>simp[elem]at h;subst h;refine⟨[(g,.cells (bP b8).toArray e (0,0))],?_,λVa av=>⟨_,rfl,by simp[val],?_⟩⟩
  .simp only[blocks];exact List.perm_append_comm.trans (by simp)
  .simp only[blocks,av];exact List.perm_append_comm.trans (by simp)
 |map r c es=>simp[elem]at h
 |bld v0 m8 t0 gn iG=>simp[elem]at h
 |bt b8=>
  cases i<;>simp[elem]at h;subst h;exact⟨[],by simp[blocks],λVa av=>⟨_,rfl,by simp[val,av],by simp[blocks]⟩⟩
theorem focus:∀(ps:Path){t c:T},t.bw ps=some c->∃r,(blocks c++r).Perm (blocks t) /\
  ∀c',val c'=val c->∃bz,t.cy ps c'=some bz/\val bz=val t/\(blocks c'++r).Perm (blocks bz)
 |[],t,c,h=>by
  simp only[bw,aE]at h;subst h;exact⟨[],by simp,λc' av=>⟨c',rfl,av,by simp⟩⟩
 |(i,o)::ps,t,c,h=>by
  simp only[bw]at h;cases hi:t.elem i with
  |none=>simp[hi]at h
  |some cs=>
   simp only[hi]at h;cases an:cs[o]? with
   |none=>simp[an]at h
   |some cF=>
    simp only[an]at h;obtain⟨r1,pL,hf⟩:=focus ps h;obtain⟨r2,mG,ae⟩:=Zc an;obtain⟨bx,pM,he⟩:=YA hi;refine⟨r1++(r2++bx),?_,λc' av=>?_⟩
    .rw [<-aA];refine(a6 _ pL).trans ?_;rw[<-aA];exact(a6 _ mG).trans pM
    .obtain ⟨ck,n4,EK,mF⟩:=hf c' av;obtain⟨bz,pN,IH,ajO⟩:=he (cs.set o ck) (acT an EK);refine⟨bz,by simp only[cy,hi,an,n4];exact pN,IH,?_⟩;rw[<-aA];refine(a6 _ mF).trans ?_;rw[<-aA];exact(a6 _ (ae ck)).trans ajO
end T
end Go.aS
namespace Go.aS
open D
namespace T
def node:T->Bool
 |leaf (.sl _) _=>true
 |leaf (.ref _) _=>true
 |own ..=>true
 |nil=>true
 |box ..=>true
 |map ..=>true
 |bld ..=>true
 |_=>false
def dj(dead:Bool->Nat->Path->Bool):T->T
 |leaf d v=>leaf (D.dj dead d) v
 |t=>t
def dN(dead:Bool->Nat->Path->Bool):T->T
 |leaf d v=>leaf (D.dN dead d) v
 |agg cs=>agg (cs.map (dj dead))
 |t=>t
section
variable(dead:Bool->Nat->Path->Bool)
theorem alL(t:T):val (dj dead t)=val t:=by cases t<;>simp[dj,val]
theorem PX(t:T):val (dN dead t)=val t:=by
 cases t<;>simp[dN,val,ny];intro a _;exact alL dead a
theorem agN(t:T):blocks (dj dead t)=blocks t:=by cases t<;>simp[dj,blocks]
theorem U7(t:T):blocks (dN dead t)=blocks t:=by
 cases t<;>simp[dN,blocks,sW,iZ,agN]
theorem ahj(t:T):erase (dj dead t)=D.dj dead (erase t):=by
 cases t<;>simp[dj,erase,D.dj]
theorem ahk(t:T):erase (dN dead t)=D.dN dead (erase t):=by
 cases t<;>simp[dN,erase,D.dN,D.dj,hz];intro a _;exact ahj dead a
theorem akG(d:D):D.dj dead d=d∨(D.dj dead d=.undef/\d.tz=true):=by
 cases d with
 |alias bk ps=>simp only[D.dj];split<;>simp[D.tz]
 |sub bk ps a b=>simp only[D.dj];split<;>simp[D.tz]
 |place bk ps a b=>simp only[D.dj];split<;>simp[D.tz]
 |_=>exact .inl rfl
theorem alE(t:T)(al:tidy t):tidy (dj dead t):=by
 cases t with
 |leaf d v=>
  rcases akG dead d with h|⟨h,_⟩<;>simp only[dj,h]
  .exact al
  .simp [tidy]
 |_=>exact al
theorem PT(t:T)(al:tidy t):tidy (dN dead t):=by
 cases t with
 |leaf d v=>
  simp only[dN];cases d with
  |alias bk ps=>simp only[D.dN,D.dj];split<;>simp[tidy]
  |sub bk ps a b=>simp only[D.dN,D.dj];split<;>simp[tidy]
  |place bk ps a b=>simp only[D.dN,D.dj];split<;>simp[tidy]
  |_=>simpa[tidy,D.dN,D.dj]using al
 |agg cs=>
  simp only[dN,tidy,o4]at al⊢;intro x U;obtain⟨y,aw,rfl⟩:=cu.1 U;exact alE dead y (al y aw)
 |_=>exact al
theorem akZ{t:T}(h:t.node=true):dj dead t=t:=by
 cases t with
 |leaf d v=>cases d<;>simp_all [node,dj,D.dj]
 |_=>simp[dj]
theorem Nc{t x:T}{ps:Path}(h:t.bw ps=some x)(U:x.node=true):(dN dead t).bw ps=some x:=by
 cases t with
 |leaf d v=>
  cases ps with
  |nil=>
   simp only[bw,aE]at h;subst h;cases d<;>simp_all [node,dN,D.dN,D.dj,bw]
  |cons p ps=>simp[bw,elem]at h
 |agg cs=>
  cases ps with
  |nil=>simp only[bw,aE]at h;subst h;simp[node]at U
  |cons p ps=>
   obtain⟨i,o⟩:=p;cases i with
   |succ i=>simp[bw,elem]at h
   |zero=>
    simp only[bw,elem,dN,cc]at h⊢;cases an:cs[o]? with
    |none=>simp[an]at h
    |some c=>
     simp only[an,bo]at h⊢;cases c with
     |leaf d v=>
      cases ps with
      |nil=>
       simp only[bw,aE]at h⊢;subst h;exact akZ dead U
      |cons p ps=>simp[bw,elem]at h
     |_=>simpa[dj]using h
 |_=>simpa[dN]using h
end
end T
abbrev bK:=List (Nat×T)
def fP:T:=.leaf .undef Go.undef
def eg:bK->Nat->Option T
 |[],_=>none
 |(k,t)::r,s=>if k=s then some t else eg r s
def bg(G:bK)(s:Nat):T:=(eg G s).getD fP
def dS:bK->Nat->T->bK
 |[],s,t=>[(s,t)]
 |(k,e)::r,s,t=>if k=s then(s,t)::r else(k,e)::dS r s t
def ux(f:T->T)(G:bK):bK:=G.map λx=>(x.1,f x.2)
def mm(G:bK):Fr:=G.map λx=>(x.1,x.2.erase)
def a8(G:bK):List (Nat×Obj):=G.flatMap λx=>x.2.blocks
theorem aa5(G:bK)(s:Nat):get (mm G) s=(bg G s).erase:=by
 induction G with
 |nil=>simp[mm,get,bg,eg,fP,T.erase]
 |cons x r aN=>
  simp only[mm,cD,get,bg,eg]
  split
  .rfl
  .exact aN
theorem aai(G:bK)(s:Nat)(t:T):cf (mm G) s t.erase=mm (dS G s t):=by
 induction G with
 |nil=>simp[mm,cf,dS]
 |cons x r aN=>
  simp only[mm,cD,cf,dS]
  split
  .simp
  .simp only[cD,mS,true_and];exact aN
theorem FM(G:bK)(s:Nat)(t:T):eg (dS G s t) s=some t:=by
 induction G with
 |nil=>simp[dS,eg]
 |cons x r aN=>
  simp only[dS]
  split
  .simp [eg]
  .rename_i h;simp[eg,h,aN]
theorem FL(G:bK){s bk:Nat}(t:T)(h:bk≠s):eg (dS G s t) bk=eg G bk:=by
 induction G with
 |nil=>simp[dS,eg,Ne.symm h]
 |cons x r aN=>
  simp only[dS]
  split
  .rename_i aj;subst aj;simp[eg,Ne.symm h]
  .simp only[eg];split<;>simp_all
theorem vP(G:bK)(s:Nat)(t:T):bg (dS G s t) s=t:=by simp[bg,FM]
theorem sx(G:bK){s bk:Nat}(t:T)(h:bk≠s):bg (dS G s t) bk=bg G bk:=by simp[bg,FL G t h]
theorem Sh(f:T->T)(G:bK)(s:Nat):eg (ux f G) s=(eg G s).map f:=by
 induction G with
 |nil=>simp[ux,eg]
 |cons x r aN=>
  simp only[ux,cD,eg]
  split
  .rfl
  .exact aN
theorem acd(f:T->T)(G:bK)(s:Nat)(h:f fP=fP):bg (ux f G) s=f (bg G s):=by
 simp only[bg,Sh];cases eg G s<;>simp[h]
theorem Zd(f:T->T)(h:∀t,(f t).blocks=t.blocks)(G:bK):a8 (ux f G)=a8 G:=by
 simp[a8,ux,iZ,h]
theorem Cp(G:bK)(s:Nat):∃r,((bg G s).blocks++r).Perm (a8 G)/\∀t,(t.blocks++r).Perm (a8 (dS G s t)):=by
 induction G with
 |nil=>exact⟨[],by simp[bg,eg,fP,T.blocks,a8],λt=>by simp[dS,a8]⟩
 |cons x r aN=>
  obtain⟨k,e⟩:=x;by_cases aj:k=s
  .subst aj;exact⟨a8 r,by simp[bg,eg,a8],λt=>by simp[dS,a8]⟩
  .obtain ⟨q,I,aa⟩:=aN;have ak:bg ((k,e)::r) s=bg r s:=by simp[bg,eg,aj]
   refine⟨e.blocks++q,?_,λt=>?_⟩
   .rw [ak,<-aA];simp only[a8,hR];refine(a6 _ ba).trans ?_;rw[aA];exact b5 _ I
   .have:dS ((k,e)::r) s t=(k,e)::dS r s t:=by simp[dS,aj]
    rw[this,<-aA];simp only[a8,hR];refine(a6 _ ba).trans ?_;rw[aA];exact b5 _ (aa t)
structure dT(M:Mem)(w:World)(B:List (Nat×Obj)):Prop where
 nodup:(B.map (·.1)).Nodup
 heap:∀x∈B,w.heap[x.1]?=some x.2
 apart:∀x∈B,M x.1=none
def fE(M:Mem)(w:World):Prop:=∀g o,M g=some o->w.heap[g]?=some o
theorem dT.perm{M:Mem}{w:World}{B B':List (Nat×Obj)}(h:dT M w B)(p:B.Perm B'):dT M w B':=
 ⟨(p.map _).nodup_iff.1 h.nodup,λx U=>h.heap x (p.mem_iff.2 U),λx U=>h.apart x (p.mem_iff.2 U)⟩
theorem dT.left{M:Mem}{w:World}{A B:List (Nat×Obj)}(h:dT M w (A++B)):dT M w A:=
 ⟨by have:=h.nodup;rw[eb,ig]at this;exact this.1,λx U=>h.heap x (by simp[U]),λx U=>h.apart x (by simp[U])⟩
theorem dT.right{M:Mem}{w:World}{A B:List (Nat×Obj)}(h:dT M w (A++B)):dT M w B:=
 ⟨by have:=h.nodup;rw[eb,ig]at this;exact this.2.1,λx U=>h.heap x (by simp[U]),λx U=>h.apart x (by simp[U])⟩
theorem dT.nil(M:Mem)(w:World):dT M w []:=⟨by simp,by simp,by simp⟩
theorem dT.lt{M:Mem}{w:World}{B:List (Nat×Obj)}(h:dT M w B){x:Nat×Obj}(U:x∈B):x.1<w.heap.size:=(gC.1 (h.heap x U)).1
theorem fE.lt{M:Mem}{w:World}(h:fE M w){g:Nat}{o:Obj}(ak:M g=some o):g<w.heap.size:=(gC.1 (h g o ak)).1
structure cN(M:Mem)(B:List Nat)(w:World)(M':Mem)(B':List Nat)(w':World):Prop where
 os:w'.os=w.os
 tape:w'.tape=w.tape
 output:w'.output=w.output
 size:w.heap.size<=w'.heap.size
 out:∀g,g<w.heap.size->g ∉ B->w'.heap[g]?=w.heap[g]?
 iW:M.le M'
 jC:∀g o,M' g=some o->M g=some o∨g∈B∨w.heap.size<=g
 own:∀g∈B',g∈B∨w.heap.size<=g
theorem cN.refl(M:Mem)(B:List Nat)(w:World):cN M B w M B w:=
 ⟨rfl,rfl,rfl,Nat.le_refl _,λ_ _ _=>rfl,Mem.le_refl M,λ_ _ h=>.inl h,λ_ h=>.inl h⟩
theorem cN.trans{M b1 M2:Mem}{B je Tu:List Nat}{w w1 w2:World}(h:cN M B w b1 je w1)(k:cN b1 je w1 M2 Tu w2):cN M B w M2 Tu w2 where
 os:=k.os.trans h.os
 tape:=k.tape.trans h.tape
 output:=k.output.trans h.output
 size:=hc h.size k.size
 out g ak cg:=by
  rw[k.out g (Nat.lt_of_lt_of_le ak h.size) (λag=>by rcases h.own g ag with I|I;exact cg I;omega)];exact h.out g ak cg
 iW:=Mem.le_trans h.iW k.iW
 jC g o ak:=by
  rcases k.jC g o ak with I|I|I
  .exact h.jC g o I
  .rcases h.own g I with aa|aa
   .exact .inr (.inl aa)
   .exact .inr (.inr aa)
  .exact .inr (.inr (hc h.size I))
 own g ak:=by
  rcases k.own g ak with I|I
  .exact h.own g I
  .exact .inr (hc h.size I)
theorem cN.weaken{M M':Mem}{B je B':List Nat}{w w':World}(h:cN M B w M' B' w')(cg:∀g∈je,g∈B'):cN M B w M' je w':=
 {h with own:=λg ak=>h.own g (cg g ak) }
end Go.aS
namespace Go.aS
open D
namespace T
def kB:T->T->Prop
 |leaf d v,y=>y=leaf d v
 |own g cap _ _ es,y=>∃e' Ce es',y=own g cap e' Ce es'/\es'.map cx=es.map cx
 |nil,y=>y=nil
 |agg _,_=>False
 |box g _ _,y=>∃e' b8,y=box g e' b8
 |map r _ _,y=>∃c' es',y=map r c' es'
 |bld v _ _ _ _,y=>∃uM bz e' zl,y=bld v uM bz e' zl
 |bt _,_=>False
theorem pR{x:T}(h:x.node=true):kB x x:=by
 cases x with
 |own g cap e sp es=>exact⟨_,_,_,rfl,rfl⟩
 |agg=>simp[node]at h
 |bt=>simp[node]at h
 |leaf=>rfl
 |nil=>rfl
 |box=>exact⟨_,_,rfl⟩
 |map=>exact⟨_,_,rfl⟩
 |bld=>exact⟨_,_,_,_,rfl⟩
theorem tw{x y:T}(h:kB x y)(U:x.node=true):y.node=true:=by
 cases x<;>simp only[kB]at h
 case leaf=>subst h;exact U
 case own=>obtain⟨_,_,_,rfl,_⟩:=h;rfl
 case nil=>subst h;rfl
 case box=>obtain⟨_,_,rfl⟩:=h;rfl
 case map=>obtain⟨_,_,rfl⟩:=h;rfl
 case bld=>obtain⟨_,_,_,_,rfl⟩:=h;rfl
theorem Bs{x y:T}(h:kB x y):y.val=x.val:=by
 cases x<;>simp only[kB]at h
 case leaf=>subst h;rfl
 case own=>
  obtain⟨_,_,es',rfl,aa⟩:=h;have:=congrArg cx aa;simp only[eW]at this;simp[val,this]
 case nil=>subst h;rfl
 case box=>obtain⟨_,_,rfl⟩:=h;rfl
 case map=>obtain⟨_,_,rfl⟩:=h;rfl
 case bld=>obtain⟨_,_,_,_,rfl⟩:=h;rfl
theorem Xs{t bz:T}{i:Nat}{cs b8:List T}(h:t.elem i=some cs)(hl:b8.length=cs.length)(da:t.df i b8=some bz)(ao:t.node=true):kB t bz:=by
 cases t with
 |leaf d v=>simp[elem]at h
 |own g cap e sp es=>
  simp only[df,aE]at da;simp only[elem]at h;subst da;refine⟨e,sp,_,rfl,?_⟩;rw[dR,hl];exact Aa (by rw[cc,h];rfl)
 |nil=>simp[elem]at h
 |agg b8=>simp[node]at ao
 |box g e b8=>cases i<;>simp[df]at da;subst da;exact⟨_,_,rfl⟩
 |map r c es=>simp[elem]at h
 |bld v0 m8 t0 gn iG=>simp[elem]at h
 |bt b8=>simp[node]at ao
theorem uU{t bz:T}{i:Nat}{cs b8:List T}(h:t.elem i=some cs)(da:t.df i b8=some bz)(k:Nat):bz.elem k=if k=i then some b8 else t.elem k:=by
 cases t with
 |leaf d v=>simp[elem]at h
 |own g cap e sp es=>
  simp only[df,aE]at da;subst da;simp only[elem]at h⊢;obtain⟨hi,_⟩:=bL.1 h;rw[List.getElem?_set];by_cases aj:i=k
  .subst aj;simp[hi]
  .simp [aj,Ne.symm aj]
 |nil=>simp[elem]at h
 |agg qz=>cases i with
  |zero=>simp only[df,aE]at da;subst da;cases k<;>simp[elem]
  |succ i=>simp[elem]at h
 |box g e qz=>cases i with
  |zero=>simp only[df,aE]at da;subst da;cases k<;>simp[elem]
  |succ i=>simp[elem]at h
 |map r c es=>simp[elem]at h
 |bld v0 m8 t0 gn iG=>simp[elem]at h
 |bt qz=>cases i with
  |zero=>simp only[df,aE]at da;subst da;cases k<;>simp[elem]
  |succ i=>simp[elem]at h
theorem DY:∀(ps:Path){t x x' bz:T},t.bw ps=some x->t.cy ps x'=some bz->∀(p:Path)(y:T),pre ps p=false->t.bw p=some y->y.node=true->∃fw,bz.bw p=some fw/\kB y fw
 |[],t,x,x',bz,_,_,p,y,af,_,_=>by simp[pre]at af
 |(i,o)::ps,t,x,x',bz,U,ae,p,y,af,aw,ao=>by
  simp only[bw]at U;simp only[cy]at ae;cases hi:t.elem i with
  |none=>simp[hi]at U
  |some cs=>
   simp only[hi]at U ae;cases an:cs[o]? with
   |none=>simp[an]at U
   |some c=>
    simp only[an]at U ae;cases ad:c.cy ps x' with
    |none=>simp[ad]at ae
    |some c'=>
     simp only[ad]at ae;have Ef:=uU hi ae;cases p with
     |nil=>
      simp only[bw,aE]at aw⊢;subst aw;exact⟨bz,rfl,Xs hi (by simp) ae ao⟩
     |cons q p=>
      obtain⟨k,m⟩:=q;simp only[bw]at aw⊢;rw[Ef k];by_cases aj:k=i
      .subst aj;simp only[hi]at aw;simp only[if_true];by_cases hm:m=o
       .subst hm;simp only[an]at aw;have e8:m<cs.length:=(bL.1 an).1;simp only[fW e8];exact DY ps U ad p y (by simpa[pre]using af) aw ao
       .rw [List.getElem?_set_ne (Ne.symm hm)];cases jx:cs[m]? with
        |none=>simp[jx]at aw
        |some ck=>simp only[jx]at aw⊢;exact⟨y,aw,pR ao⟩
      .simp only[aj,if_false];exact⟨y,aw,pR ao⟩
theorem DX:∀(ps:Path){t x x' bz:T},t.bw ps=some x->t.cy ps x'=some bz->∀r,bz.bw (ps++r)=x'.bw r
 |[],t,x,x',bz,_,ae,r=>by simp only[cy,aE]at ae;subst ae;rfl
 |(i,o)::ps,t,x,x',bz,U,ae,r=>by
  simp only[bw]at U;simp only[cy]at ae;cases hi:t.elem i with
  |none=>simp[hi]at U
  |some cs=>
   simp only[hi]at U ae;cases an:cs[o]? with
   |none=>simp[an]at U
   |some c=>
    simp only[an]at U ae;cases ad:c.cy ps x' with
    |none=>simp[ad]at ae
    |some c'=>
     simp only[ad]at ae;have e8:o<cs.length:=(bL.1 an).1;simp only[dn,bw,uU hi ae i,if_true,fW e8];exact DX ps U ad r
theorem DV:∀(ps:Path){t x:T},t.bw ps=some x->∀r,t.bw (ps++r)=x.bw r
 |[],t,x,U,r=>by simp only[bw,aE]at U;subst U;rfl
 |(i,o)::ps,t,x,U,r=>by
  simp only[bw]at U;cases hi:t.elem i with
  |none=>simp[hi]at U
  |some cs=>
   simp only[hi]at U;cases an:cs[o]? with
   |none=>simp[an]at U
   |some c=>
    simp only[an]at U;simp only[dn,bw,hi,an];exact DV ps U r
end T
theorem aah(ps r:Path):pre ps (ps++r)=true:=by
 induction ps with
 |nil=>rfl
 |cons p ps aN=>obtain⟨a,b⟩:=p;simp[pre,aN]
theorem wj:∀(ps p:Path),pre ps p=true↔∃r,p=ps++r
 |[],p=>by simp[pre]
 |(a,b)::ps,[]=>by simp[pre]
 |(a,b)::ps,(c,d)::p=>by
  simp only[pre,Bool.and_eq_true,beq_iff_eq,wj ps p,dn,mS,aQ];constructor
  .rintro ⟨⟨rfl,rfl⟩,r,rfl⟩;exact⟨r,⟨rfl,rfl⟩,rfl⟩
  .rintro ⟨r,⟨rfl,rfl⟩,rfl⟩;exact⟨⟨rfl,rfl⟩,r,rfl⟩
def wA(x:T)(off len:Nat)(v:Value):Prop:=
 ∃A n c k es A',x.val=.slice A n c/\(x.erase=.own es∨x.erase=.sl es)/\es.length=n/\(∀e∈es,e.length=k)/\off+len<=n/\n<=c/\v=.slice A' len (c-off)/\(A'=A.map (·.add (off*k))∨(off=c/\0<off))
def wa(x:T)(i o:Nat)(v:Value):Prop:=
 (∃g cap e sp es k,x=.own g cap e sp es/\i<es.length/\(∀y∈es,y.length=k)/\v=.pointer (some ⟨g,i*k+o,none⟩)) ∨
 (∃g e cs,x=.box g e cs/\i=0/\v=.pointer (some ⟨g,o,none⟩))
def aJ(M:Mem)(G:bK):D->Value->Prop
 | .undef,_=>True
 | .alias s ps,v=>∃x,(bg G s).bw ps=some x/\x.node=true/\v=x.val
 | .sub s ps off len,v=>∃x,(bg G s).bw ps=some x/\x.node=true/\wA x off len v
 | .place s ps i o,v=>∃x,(bg G s).bw ps=some x/\x.node=true/\wa x i o v
 |d,v=>bu M d v
inductive ff{O fc:Type}(R:O->fc->Prop):List O->List fc->Prop
 |nil:ff R [] []
 |cons {a b hK bs}:R a b->ff R hK bs->ff R (a::hK) (b::bs)
def fm(M:Mem)(G:bK):D->Value->Prop
 | .fn f cs,v=>∃vs,v=.func (.func f) #[] vs.toArray/\ff (aJ M G) cs vs
 |d,v=>aJ M G d v
theorem af1{es es':List (List T)}(h:es'.map cx=es.map cx){k:Nat}(aj:∀e∈T.px es,e.length=k):∀e∈T.px es',e.length=k:=by
 intro e he;rw[T.lU]at he aj;obtain⟨y,aw,rfl⟩:=cu.1 he;have:y.length∈es'.map cx:=cu.2 ⟨y,aw,rfl⟩;rw[h]at this;obtain⟨z,aG,iF⟩:=cu.1 this;have:=aj (z.map T.erase) (cu.2 ⟨z,aG,rfl⟩);simp only[eW]at this⊢;omega
theorem wA.kB{x y:T}(h:T.kB x y){off len:Nat}{v:Value}(k:wA x off len v):wA y off len v:=by
 obtain⟨A,n,c,w,es,A',I,aa,aB,aW,bO⟩:=k;cases x<;>simp only[T.kB]at h
 case leaf=>subst h;exact⟨A,n,c,w,es,A',I,aa,aB,aW,bO⟩
 case own g cap e sp xs=>
  have av:=T.Bs (x:=.own g cap e sp xs) (y:=y) h;obtain⟨e',Ce,es',rfl,hl⟩:=h;simp only[T.erase,D.own.injEq,reduceCtorEq,or_false]at aa;subst aa;refine⟨A,n,c,w,T.px es',A',av.trans I,.inl rfl,?_,af1 hl aW,bO⟩;have:=congrArg cx hl;simp only[eW]at this;simpa[this]using aB
 case nil=>subst h;exact⟨A,n,c,w,es,A',I,aa,aB,aW,bO⟩
 case box=>simp[T.erase]at aa
 case map=>simp[T.erase]at aa
 case bld=>simp[T.erase]at aa
theorem wa.kB{x y:T}(h:T.kB x y){i o:Nat}{v:Value}(k:wa x i o v):wa y i o v:=by
 rcases k with⟨g,cap,e,sp,es,k,rfl,aa,aB,aW⟩|⟨g,e,cs,rfl,aa,aB⟩
 .obtain ⟨e',Ce,es',rfl,hl⟩:=h;refine .inl ⟨g,cap,e',Ce,es',k,rfl,?_,?_,aW⟩
  .have:=congrArg cx hl;simp only[eW]at this;omega
  .intro y aw;have:y.length∈es'.map cx:=cu.2 ⟨y,aw,rfl⟩;rw[hl]at this;obtain⟨z,aG,iF⟩:=cu.1 this;rw[<-iF];exact aB z aG
 .obtain ⟨e',b8,rfl⟩:=h;exact .inr ⟨g,e',b8,rfl,aa,aB⟩
def mU(G bS:bK)(dead:Bool->Nat->Path->Bool):Prop:=
 ∀s p x,(bg G s).bw p=some x->x.node=true ->
  (dead true s p=false->∃x',(bg bS s).bw p=some x'/\x'.node=true/\x'.val=x.val) /\
  (dead false s p=false->∃x',(bg bS s).bw p=some x'/\T.kB x x')
def uc(G bS:bK):Prop:=
 ∀bk p x,(bg G bk).bw p=some x->x.node=true->∃x',(bg bS bk).bw p=some x'/\T.kB x x'
theorem uc.keeps{G bS:bK}(h:uc G bS)(dead:Bool->Nat->Path->Bool):mU G bS dead:=λs p x U ao=>
 let ⟨x',I,aa⟩:=h s p x U ao
 ⟨λ_=>⟨x',I,T.tw aa ao,T.Bs aa⟩,λ_=>⟨x',I,aa⟩⟩
theorem Ac{M M':Mem}(bW:M.le M'){G bS:bK}{dead:Bool->Nat->Path->Bool}(h:mU G bS dead){d:D}{v:Value}(k:aJ M G d v):aJ M' bS (D.dj dead d) v:=by
 cases d with
 |alias bk ps=>
  simp only[D.dj];split
  .simp [aJ]
  .rename_i ao;obtain⟨x,I,aa,aB⟩:=k;obtain⟨x',aW,bO,c7⟩:=(h bk ps x I aa).1 (by simpa using ao);exact⟨x',aW,bO,aB.trans c7.symm⟩
 |sub bk ps a b=>
  simp only[D.dj];split
  .simp [aJ]
  .rename_i ao;obtain⟨x,I,aa,aB⟩:=k;obtain⟨x',aW,bO⟩:=(h bk ps x I aa).2 (by simpa using ao);exact⟨x',aW,T.tw bO aa,aB.kB bO⟩
 |place bk ps a b=>
  simp only[D.dj];split
  .simp [aJ]
  .rename_i ao;obtain⟨x,I,aa,aB⟩:=k;obtain⟨x',aW,bO⟩:=(h bk ps x I aa).2 (by simpa using ao);exact⟨x',aW,T.tw bO aa,aB.kB bO⟩
 |undef=>simp[D.dj,aJ]
 |_=>simp only[aJ,D.dj]at k⊢;exact bu.mono bW _ _ k
theorem Lv{M M':Mem}(bW:M.le M'){G bS:bK}(h:uc G bS){d:D}{v:Value}(k:aJ M G d v):aJ M' bS d v:=by
 cases d with
 |alias bk ps=>
  obtain⟨x,I,aa,aB⟩:=k;obtain⟨x',aW,bO⟩:=h bk ps x I aa;exact⟨x',aW,T.tw bO aa,aB.trans (T.Bs bO).symm⟩
 |sub bk ps a b=>
  obtain⟨x,I,aa,aB⟩:=k;obtain⟨x',aW,bO⟩:=h bk ps x I aa;exact⟨x',aW,T.tw bO aa,aB.kB bO⟩
 |place bk ps a b=>
  obtain⟨x,I,aa,aB⟩:=k;obtain⟨x',aW,bO⟩:=h bk ps x I aa;exact⟨x',aW,T.tw bO aa,aB.kB bO⟩
 |undef=>simp[aJ]
 |_=>simp only[aJ]at k⊢;exact bu.mono bW _ _ k
theorem abG{M M':Mem}(bW:M.le M'){G bS:bK}{dead:Bool->Nat->Path->Bool}(h:mU G bS dead){az:List D}{vs:List Value}(k:ff (aJ M G) az vs):ff (aJ M' bS) (az.map (D.dj dead)) vs:=by
 induction k with
 |nil=>exact .nil
 |cons a _ aN=>exact .cons (Ac bW h a) aN
theorem abF{M M':Mem}(bW:M.le M'){G bS:bK}(h:uc G bS){az:List D}{vs:List Value}(k:ff (aJ M G) az vs):ff (aJ M' bS) az vs:=by
 induction k with
 |nil=>exact .nil
 |cons a _ aN=>exact .cons (Lv bW h a) aN
theorem abH{M M':Mem}(bW:M.le M'){G bS:bK}(h:uc G bS){d:D}{v:Value}(k:fm M G d v):fm M' bS d v:=by
 cases d with
 |fn f cs=>
  obtain⟨vs,I,aa⟩:=k;exact⟨vs,I,abF bW h aa⟩
 |_=>simp only[fm]at k⊢;exact Lv bW h k
theorem abI{M M':Mem}(bW:M.le M'){G bS:bK}{dead:Bool->Nat->Path->Bool}(h:mU G bS dead){d:D}{v:Value}(k:fm M G d v):fm M' bS (D.dN dead d) v:=by
 cases d with
 |fn f cs=>
  obtain⟨vs,I,aa⟩:=k;exact⟨vs,I,abG bW h aa⟩
 |agg cs=>simp[fm,aJ,bu]at k
 |alias bk ps=>
  have:=Ac bW h (d:=.alias bk ps) k;simp only[D.dN];simp only[D.dj]at this⊢
  split at this<;>rename_i ad<;>simp only[ad,if_true,if_false]<;>exact this
 |sub bk ps a b=>
  have:=Ac bW h (d:=.sub bk ps a b) k;simp only[D.dN];simp only[D.dj]at this⊢
  split at this<;>rename_i ad<;>simp only[ad,if_true,if_false]<;>exact this
 |place bk ps a b=>
  have:=Ac bW h (d:=.place bk ps a b) k;simp only[D.dN];simp only[D.dj]at this⊢
  split at this<;>rename_i ad<;>simp only[ad,if_true,if_false]<;>exact this
 |_=>simp only[fm,D.dN,D.dj]at k⊢;exact Ac bW h k
def lf(M:Mem)(G:bK):T->Prop
 | .leaf d v=>aJ M G d v/\v.oneCell'=true
 |t=>T.wf M t
def qc(M:Mem):T->Prop
 | .leaf d v=>d=.undef∨bu M d v
 | .agg cs=>T.ga M cs
 |t=>T.wf M t
def fg(M:Mem)(G:bK):T->Prop
 | .leaf d v=>fm M G d v
 | .agg cs=>∀c∈cs,lf M G c
 | .bt az=>∀c∈az,qc M c
 |t=>T.wf M t
mutual
theorem x8{M M':Mem}(h:M.le M'):∀t,T.wf M t->T.wf M' t
 | .leaf d v,k=>by
  simp only[T.wf]at k⊢;rcases k with k|k
  .exact .inl k
  .exact .inr (bu.mono h d v k)
 | .own g cap e sp es,k=>by
  simp only[T.wf]at k⊢;exact⟨k.1,k.2.1,k.2.2.1,k.2.2.2.1,XY h es k.2.2.2.2⟩
 | .nil,_=>by simp[T.wf]
 | .agg _,k=>by simp[T.wf]at k
 | .box _ _ cs,k=>by simp only[T.wf]at k⊢;exact FH h cs k
 | .bld _ _ _ _ _,k=>by simp only[T.wf]at k⊢;exact k
 | .map _ _ es,k=>by
  simp only[T.wf]at k⊢;intro x U;obtain⟨I,aa⟩:=k x U;refine⟨I,?_⟩;generalize x.2.2.1=d at aa⊢;cases d with
  |agg cs=>obtain⟨vs,aB,aW⟩:=aa;exact⟨vs,aB,c4.mono h _ _ aW⟩
  |own es=>cases es with
   |nil=>exact aa
   |cons=>simp[T.Cg,bu]at aa
  |_=>exact bu.mono h _ _ aa
 | .bt _,k=>by simp[T.wf]at k
theorem FH{M M':Mem}(h:M.le M'):∀ts,T.ga M ts->T.ga M' ts
 |[],_=>by simp[T.ga]
 |t::ts,k=>by simp only[T.ga]at k⊢;exact⟨x8 h t k.1,FH h ts k.2⟩
theorem XY{M M':Mem}(h:M.le M'):∀es,T.ha M es->T.ha M' es
 |[],_=>by simp[T.ha]
 |e::es,k=>by simp only[T.ha]at k⊢;exact⟨FH h e k.1,XY h es k.2⟩
end
theorem agq{M M':Mem}(bW:M.le M'){G bS:bK}(h:uc G bS){t:T}(k:lf M G t):lf M' bS t:=by
 cases t with
 |leaf d v=>exact⟨Lv bW h k.1,k.2⟩
 |_=>exact x8 bW _ k
theorem agr{M M':Mem}(bW:M.le M'){G bS:bK}{dead:Bool->Nat->Path->Bool}(h:mU G bS dead){t:T}(k:lf M G t):lf M' bS (T.dj dead t):=by
 cases t with
 |leaf d v=>exact⟨Ac bW h k.1,k.2⟩
 |_=>exact x8 bW _ k
theorem UI{M M':Mem}(bW:M.le M'){t:T}(k:qc M t):qc M' t:=by
 cases t with
 |leaf d v=>exact k.imp id (bu.mono bW _ _)
 |agg cs=>exact FH bW _ k
 |_=>exact x8 bW _ k
theorem UU{M M':Mem}(bW:M.le M'){G bS:bK}(h:uc G bS){t:T}(k:fg M G t):fg M' bS t:=by
 cases t with
 |leaf d v=>exact abH bW h k
 |agg cs=>exact λc ad=>agq bW h (k c ad)
 |bt az=>
  intro c ad;exact UI bW (k c ad)
 |_=>exact x8 bW _ k
theorem Mz{M M':Mem}(bW:M.le M'){G bS:bK}{dead:Bool->Nat->Path->Bool}(h:mU G bS dead){t:T}(k:fg M G t):fg M' bS (T.dN dead t):=by
 cases t with
 |leaf d v=>exact abI bW h k
 |agg cs=>
  intro c ad;obtain⟨y,aw,rfl⟩:=cu.1 ad;exact agr bW h (k y aw)
 |bt az=>
  intro c ad;exact UI bW (k c ad)
 |_=>exact x8 bW _ k
end Go.aS
namespace Go.aS
open D
abbrev dD:=List (Nat×Obj)
def Sub(B' B:dD):Prop:=∀g∈B'.map mi,g∈B.map mi
theorem Sub.refl(B:dD):Sub B B:=λ_ h=>h
theorem Sub.trans{A B C:dD}(h:Sub A B)(k:Sub B C):Sub A C:=λg ak=>k g (h g ak)
theorem Sub.xt{A B:dD}(h:A.Perm B):Sub A B:=λ_ ak=>(h.map mi).mem_iff.1 ak
theorem Sub.ak4{A B:dD}(h:∀x∈A,x∈B):Sub A B:=by
 intro g ak;obtain⟨x,U,rfl⟩:=cu.1 ak;exact cu.2 ⟨x,h x U,rfl⟩
structure Inv(n:Nat)(R:Nat->Value)(M:Mem)(F:Fr)(G:bK)(H:dD)(a:Act)(w:World):Prop where
 yD:mm G=F
 size:a.tmps.size=n
 defers:a.defers=[]
 bP:∀s t,eg G s=some t->if s<n then a.tmps[s]?=some t.val else R s=t.val
 tidy:∀s t,eg G s=some t->t.tidy
 ok:∀s t,eg G s=some t->fg M G t
 bd:dT M w (a8 G++H)
 mem:fE M w
section
variable{n:Nat}{R:Nat->Value}{M:Mem}{F:Fr}{G:bK}{H:dD}{a:Act}{w:World}
theorem Cx(G:bK)(s:Nat):eg G s=some (bg G s)∨(eg G s=none/\bg G s=fP):=by
 cases h:eg G s<;>simp[bg,h]
theorem Inv.get(h:Inv n R M F G H a w)(s:Nat):get F s=(bg G s).erase:=by rw[<-h.yD];exact aa5 G s
theorem Inv.jq(h:Inv n R M F G H a w)(s:Nat):(bg G s).tidy:=by
 rcases Cx G s with k|⟨_,k⟩
 .exact h.tidy s _ k
 .rw [k];simp[fP,T.tidy]
theorem Inv.iJ(h:Inv n R M F G H a w)(s:Nat):fg M G (bg G s):=by
 rcases Cx G s with k|⟨_,k⟩
 .exact h.ok s _ k
 .rw [k];simp[fP,fg,fm,aJ]
theorem Inv.b6(h:Inv n R M F G H a w)(s:Nat)(ps:Path):aS.b6 F s ps=((bg G s).bw ps).map T.erase:=by
 rw[aS.b6,h.get];exact T.Vt ps _ (h.jq s)
theorem aak{t:T}(al:t.tidy)(h:t.erase.quiet=true):∃d v,t=.leaf d v/\d.node1=false:=by
 cases t with
 |leaf d v=>refine⟨d,v,rfl,?_⟩;cases d<;>simp_all [T.erase,D.quiet,D.node1]
 |_=>simp[T.erase,D.quiet]at h
theorem ua{d:D}{v:Value}{p:Path}{x:T}(h:(T.leaf d v).bw p=some x):p=[]/\x=.leaf d v:=by
 cases p with
 |nil=>simp only[T.bw,aE]at h;exact⟨rfl,h.symm⟩
 |cons q p=>simp[T.bw,T.elem]at h
def qj(dead:Bool->Nat->Path->Bool)(G:bK):bK:=ux (T.dN dead) G
theorem Kk(dead)(G:bK)(bk:Nat):bg (qj dead G) bk=T.dN dead (bg G bk):=acd _ G bk rfl
theorem zK(dead)(G:bK)(bk:Nat):eg (qj dead G) bk=(eg G bk).map (T.dN dead):=Sh _ G bk
theorem p4(dead)(G:bK):a8 (qj dead G)=a8 G:=Zd _ (T.U7 dead) G
theorem QR(dead)(G:bK):mm (qj dead G)=jM dead (mm G):=by
 simp only[mm,qj,ux,jM,List.map_map];refine List.map_congr_left λx _=>?_;simp[T.ahk]
theorem QZ{G bQ:bK}{dead}(h:mU G bQ dead):mU G (qj dead bQ) dead:=by
 intro s p x I aa;obtain⟨b9,k2⟩:=h s p x I aa;rw[Kk];refine⟨λah=>?_,λah=>?_⟩
 .obtain ⟨x',aB,aW,bO⟩:=b9 ah;exact⟨x',T.Nc dead aB aW,aW,bO⟩
 .obtain ⟨x',aB,aW⟩:=k2 ah;exact⟨x',T.Nc dead aB (T.tw aW aa),aW⟩
def pc(_:Bool)(_:Nat)(_:Path):Bool:=false
theorem ER(d:D):D.dj pc d=d:=by cases d<;>simp[D.dj,pc]
theorem IT(d:D):D.dN pc d=d:=by
 have h:(D.dj pc)=id:=funext ER;cases d<;>simp[D.dN,h,ER]
theorem T.ER(t:T):T.dj pc t=t:=by cases t<;>simp[T.dj,aS.ER]
theorem T.IT(t:T):T.dN pc t=t:=by
 have h:(T.dj pc)=id:=funext T.ER;cases t<;>simp[T.dN,h,aS.IT]
theorem JS(F:Fr):jM pc F=F:=by simp[jM,IT]
theorem JT(G:bK):qj pc G=G:=by simp[qj,ux,T.IT]
theorem Inv.lH(h:Inv n R M F G H a w){M':Mem}{rv:dD}{cp:Act}{w':World}(bW:M.le M')(s:Nat)(bz:T)(dead:Bool->Nat->Path->Bool)
  (aj:mU G (dS G s bz) dead) (al:bz.tidy) (ae:fg M' G bz) (dI:dT M' w' (a8 (dS G s bz)++rv)) (eE:fE M' w')
  (D8:cp.tmps.size=n) (Nq:cp.defers=[]) (av:if s<n then cp.tmps[s]?=some bz.val else R s=bz.val)
  (an:∀k,k≠s->cp.tmps[k]?=a.tmps[k]?):
  Inv n R M' (jM dead (cf F s bz.erase)) (qj dead (dS G s bz)) rv cp w' where
 yD:=by rw[QR,<-aai,h.yD]
 size:=D8
 defers:=Nq
 bP k t hf:=by
  rw[zK]at hf;by_cases hM:k=s
  .subst hM;rw[FM]at hf;simp only[bo,aE]at hf;subst hf;rw[T.PX];exact av
  .rw [FL G bz hM]at hf;cases ak:eg G k with
   |none=>simp[ak]at hf
   |some t0=>
    simp only[ak,bo,aE]at hf;subst hf;have:=h.bP k t0 ak;rw[T.PX,an k hM];exact this
 tidy k t hf:=by
  rw[zK]at hf;by_cases hM:k=s
  .subst hM;rw[FM]at hf;simp only[bo,aE]at hf;subst hf;exact T.PT dead _ al
  .rw [FL G bz hM]at hf;cases ak:eg G k with
   |none=>simp[ak]at hf
   |some t0=>
    simp only[ak,bo,aE]at hf;subst hf;exact T.PT dead _ (h.tidy k t0 ak)
 ok k t hf:=by
  have iU:=QZ aj;rw[zK]at hf;by_cases hM:k=s
  .subst hM;rw[FM]at hf;simp only[bo,aE]at hf;subst hf;exact Mz (Mem.le_refl M') iU ae
  .rw [FL G bz hM]at hf;cases ak:eg G k with
   |none=>simp[ak]at hf
   |some t0=>
    simp only[ak,bo,aE]at hf;subst hf;exact Mz bW iU (h.ok k t0 ak)
 bd:=by rw[p4];exact dI
 mem:=eE
theorem Inv.world(h:Inv n R M F G H a w){M':Mem}{rv:dD}{w':World}(bW:M.le M')(dI:dT M' w' (a8 G++rv))(eE:fE M' w'):Inv n R M' F G rv a w':=
 {h with
  ok:=λs t hf=>UU bW (λ_ _ x U ao=>⟨x,U,T.pR ao⟩) (h.ok s t hf)
  bd:=dI
  mem:=eE }
theorem dT.xG{M:Mem}{w:World}{A B C:dD}(h:dT M w C)(p:(A++B).Perm C):dT M w A:=(h.perm p.symm).left
theorem Yu(h:Inv n R M F G H a w)(s:Nat)(t:T)(au:(get F s).quiet=true):uc G (dS G s t):=by
 intro bk p x U ao;by_cases ae:bk=s
 .subst ae;rw[h.get]at au;obtain⟨d,v,he,ah⟩:=aak (h.jq bk) au;rw[he]at U;obtain⟨_,rfl⟩:=ua U;cases d<;>simp_all [D.node1,T.node]
 .rw [sx G t ae];exact⟨x,U,T.pR ao⟩
theorem Tr(G:bK)(s:Nat)(t:T):mU G (dS G s t) (h8 s []):=by
 intro bk p x U ao;by_cases ae:bk=s
 .subst ae;constructor<;>intro ah<;>simp[h8,pre]at ah
 .rw [sx G t ae];exact⟨λ_=>⟨x,U,ao,rfl⟩,λ_=>⟨x,U,T.pR ao⟩⟩
theorem Lk{n:Nat}{a:Act}{d:Nat}{v:Value}(ao:a.tmps.size=n)(ah:d<n):
  (a.put (some d) v).tmps.size=n/\(a.put (some d) v).tmps[d]?=some v/\∀k,k≠d->(a.put (some d) v).tmps[k]?=a.tmps[k]?:=by
 simp only[Act.put];refine⟨by simpa using ao,?_,λk aj=>?_⟩
 .rw [fx];simp[ao,ah]
 .rw [fx];simp[Ne.symm aj]
theorem Inv.put{t:T}(h:Inv n R M F G (t.blocks++H) a w)(al:t.tidy)(ae:fg M G t)(dst:Option Nat)(ah:∀d,dst=some d->d<n):
  ∃bS,Inv n R M (fin F dst t.erase) bS H (a.put dst t.val) w/\Sub (a8 bS++H) (a8 G++(t.blocks++H)):=by
 cases dst with
 |none=>
  refine⟨G,{ h with bd:=?_ },?_⟩
  .refine h.bd.xG (A:=a8 G++H) (B:=t.blocks) ?_;rw[aA];exact b5 _ ba
  .exact Sub.ak4 λx U=>by rcases fR.1 U with U|U<;>simp[U]
 |some d=>
  obtain⟨dk,ea,lD⟩:=Lk (v:=t.val) h.size (ah d rfl);obtain⟨r,b_,cM⟩:=Cp G d;have fZ:((a8 (dS G d t)++H)++(bg G d).blocks).Perm (a8 G++(t.blocks++H)):=by
   refine(((cM t).symm.append_right H).append_right _).trans ?_;refine cz ?_ (b_.append_right _);simp only[aA];refine cz ?_ ((ba (l₁:=(bg G d).blocks) (l₂:=r++(t.blocks++H))).symm.trans (by simp));simp only[aA];rw[<-aA,<-aA r];exact a6 _ ba
  have dI:dT M w (a8 (dS G d t)++H):=h.bd.xG fZ;have ia:Sub (a8 (dS G d t)++H) (a8 G++(t.blocks++H)):=λg ak=>Sub.xt fZ g (by rw[eb];exact hP _ ak);have av:if d<n then(a.put (some d) t.val).tmps[d]?=some t.val else R d=t.val:=by simp only[ah d rfl,if_true];exact ea
  simp only[fin,aS.put]
  split
  .rename_i au;have:=h.lH (Mem.le_refl M) d t pc ((Yu h d t au).keeps _) al ae dI h.mem dk h.defers av lD;rw[JS,JT]at this;exact⟨_,this,ia⟩
  .have:=h.lH (Mem.le_refl M) d t (h8 d []) (Tr G d t) al ae dI h.mem dk h.defers av lD;exact⟨_,this,by rw[p4];exact ia⟩
end
end Go.aS
namespace Go.aS
open D
theorem G_{M:Mem}{G:bK}{d:D}{v:Value}(h:bu M d v):aJ M G d v:=by
 cases d with
 |alias=>simp[bu]at h
 |sub=>simp[bu]at h
 |place=>simp[bu]at h
 |undef=>simp[aJ]
 |_=>simpa only[aJ]using h
theorem SR{M:Mem}{G:bK}:∀{cs:List D}{vs:List Value},c4 M cs vs->ff (aJ M G) cs vs
 |[],vs,h=>by simp only[c4]at h;subst h;exact .nil
 |c::cs,vs,h=>by
  simp only[c4]at h;obtain⟨v,k9,rfl,I,aa⟩:=h;exact .cons (G_ I) (SR aa)
theorem Df{M:Mem}{G:bK}{d:D}{v:Value}(h:bu M d v):fm M G d v:=by
 cases d with
 |fn f cs=>
  simp only[bu]at h;obtain⟨vs,I,aa⟩:=h;exact⟨vs,I,SR aa⟩
 |_=>simp only[fm];exact G_ h
theorem zV{M:Mem}{G:bK}{t:T}(h:T.wf M t):lf M G t:=by
 cases t with
 |leaf d v=>
  simp only[T.wf]at h;rcases h with⟨rfl,h⟩|h
  .exact ⟨by simp[aJ],h⟩
  .exact ⟨G_ h,h.one⟩
 |_=>exact h
theorem Gm{M:Mem}{G:bK}{t:T}(h:T.wf M t):fg M G t:=by
 cases t with
 |leaf d v=>
  simp only[T.wf]at h;rcases h with⟨rfl,h⟩|h
  .simp [fg,fm,aJ]
  .exact Df h
 |agg=>simp[T.wf]at h
 |bt=>simp[T.wf]at h
 |_=>exact h
theorem KV{M:Mem}{t:T}(h:T.wf M t):qc M t:=by
 cases t with
 |leaf d v=>
  simp only[T.wf]at h;rcases h with⟨rfl,h⟩|h
  .exact .inl rfl
  .exact .inr h
 |agg=>simp[T.wf]at h
 |_=>exact h
theorem Dc{M:Mem}{t:T}(h:T.wf M t){i:Nat}{cs:List T}(hi:t.elem i=some cs):T.ga M cs:=by
 cases t with
 |leaf d v=>simp[T.elem]at hi
 |own g cap e sp es=>
  simp only[T.elem]at hi;simp only[T.wf]at h;exact(T.mR M es).1 h.2.2.2.2 cs (aM hi)
 |nil=>simp[T.elem]at hi
 |agg=>simp[T.wf]at h
 |box g e b8=>cases i<;>simp[T.elem]at hi;subst hi;exact h
 |map r c es=>simp[T.elem]at hi
 |bld v0 m8 t0 gn iG=>simp[T.elem]at hi
 |bt=>simp[T.wf]at h
theorem Dd{M:Mem}:∀(ps:Path){t x:T},T.wf M t->t.bw ps=some x->T.wf M x
 |[],t,x,h,U=>by simp only[T.bw,aE]at U;subst U;exact h
 |(i,o)::ps,t,x,h,U=>by
  simp only[T.bw]at U;cases hi:t.elem i with
  |none=>simp[hi]at U
  |some cs=>
   simp only[hi]at U;cases an:cs[o]? with
   |none=>simp[an]at U
   |some c=>
    simp only[an]at U;exact Dd ps ((T.q6 M cs).1 (Dc h hi) c (aM an)) U
theorem T_{M:Mem}{cs:List T}(h:T.ga M cs){o:Nat}{c:T}(ad:T.wf M c):T.ga M (cs.set o c):=by
 rw[T.q6]at h⊢;intro x U;rcases b3 U with U|rfl
 .exact h x U
 .exact ad
theorem RW{M:Mem}{t bz:T}(h:T.wf M t){i:Nat}{cs b8:List T}(hi:t.elem i=some cs)(hl:b8.length=cs.length)(ad:T.ga M b8)(ae:t.df i b8=some bz):T.wf M bz:=by
 cases t with
 |leaf d v=>simp[T.elem]at hi
 |own g cap e sp es=>
  simp only[T.df,aE]at ae;subst ae;simp only[T.elem]at hi;simp only[T.wf]at h⊢;obtain⟨⟨k,aj,hC,jz⟩,aa,aB,aW,bO⟩:=h;refine⟨⟨k,aj,?_,by simpa using jz⟩,by simpa using aa,aB,aW,?_⟩
  .intro x U;rcases b3 U with U|rfl
   .exact hC x U
   .rw [hl];exact hC cs (aM hi)
  .rw [T.mR]at bO⊢;intro x U;rcases b3 U with U|rfl
   .exact bO x U
   .exact ad
 |nil=>simp[T.elem]at hi
 |agg=>simp[T.wf]at h
 |box g e qz=>cases i<;>simp[T.df]at ae;subst ae;exact ad
 |map r c es=>simp[T.elem]at hi
 |bld v0 m8 t0 gn iG=>simp[T.elem]at hi
 |bt=>simp[T.wf]at h
theorem De{M:Mem}:∀(ps:Path){t x' bz:T},T.wf M t->T.wf M x'->t.cy ps x'=some bz->T.wf M bz
 |[],t,x',bz,_,U,ae=>by simp only[T.cy,aE]at ae;subst ae;exact U
 |(i,o)::ps,t,x',bz,h,U,ae=>by
  simp only[T.cy]at ae;cases hi:t.elem i with
  |none=>simp[hi]at ae
  |some cs=>
   simp only[hi]at ae;cases an:cs[o]? with
   |none=>simp[an]at ae
   |some c=>
    simp only[an]at ae;cases ad:c.cy ps x' with
    |none=>simp[ad]at ae
    |some c'=>
     simp only[ad]at ae;have hw:=Dc h hi;exact RW h hi (by simp) (T_ hw (De ps ((T.q6 M cs).1 hw c (aM an)) U ad)) ae
theorem Y4{M:Mem}{G:bK}{t x:T}(h:lf M G t){ps:Path}(U:t.bw ps=some x)(ao:x.node=true):T.wf M x:=by
 cases t with
 |leaf d v=>
  obtain⟨_,rfl⟩:=ua U;cases d<;>simp[T.node]at ao<;>exact .inr h.1
 |_=>exact Dd ps h U
theorem Y6{M:Mem}{t x:T}(h:qc M t){ps:Path}(U:t.bw ps=some x)(ao:x.node=true):T.wf M x:=by
 cases t with
 |leaf d v=>
  obtain⟨_,rfl⟩:=ua U;rcases h with rfl|h
  .simp [T.node]at ao
  .exact .inr h
 |agg cs=>
  cases ps with
  |nil=>simp only[T.bw,aE]at U;subst U;simp[T.node]at ao
  |cons p ps=>
   obtain⟨i,o⟩:=p;simp only[T.bw]at U;cases i with
   |succ=>simp[T.elem]at U
   |zero=>
    simp only[T.elem]at U;cases an:cs[o]? with
    |none=>simp[an]at U
    |some c=>simp only[an]at U;exact Dd ps ((T.q6 M cs).1 h c (aM an)) U
 |_=>exact Dd ps h U
theorem J6{M:Mem}{G:bK}{t x:T}(h:fg M G t){ps:Path}(U:t.bw ps=some x)(ao:x.node=true):T.wf M x:=by
 cases t with
 |leaf d v=>
  obtain⟨_,rfl⟩:=ua U;cases d<;>simp[T.node]at ao<;>exact .inr h
 |agg cs=>
  cases ps with
  |nil=>simp only[T.bw,aE]at U;subst U;simp[T.node]at ao
  |cons p ps=>
   obtain⟨i,o⟩:=p;simp only[T.bw]at U;cases i with
   |succ=>simp[T.elem]at U
   |zero=>
    simp only[T.elem]at U;cases an:cs[o]? with
    |none=>simp[an]at U
    |some c=>simp only[an]at U;exact Y4 (h c (aM an)) U ao
 |bt az=>
  cases ps with
  |nil=>simp only[T.bw,aE]at U;subst U;simp[T.node]at ao
  |cons p ps=>
   obtain⟨i,o⟩:=p;simp only[T.bw]at U;cases i with
   |succ=>simp[T.elem]at U
   |zero=>
    simp only[T.elem]at U;cases an:az[o]? with
    |none=>simp[an]at U
    |some c=>simp only[an]at U;exact Y6 (h c (aM an)) U ao
 |_=>exact Dd ps h U
theorem KP{d:D}{v:Value}{ps:Path}{x' bz:T}(h:(T.leaf d v).cy ps x'=some bz):bz=x':=by
 cases ps with
 |nil=>simp only[T.cy,aE]at h;exact h.symm
 |cons p ps=>simp[T.cy,T.elem]at h
theorem Y5{M:Mem}{G:bK}{t x' bz:T}(h:lf M G t){ps:Path}(U:T.wf M x')(ae:t.cy ps x'=some bz):lf M G bz:=by
 cases t with
 |leaf d v=>rw[KP ae];exact zV U
 |_=>exact zV (De ps h U ae)
theorem Y7{M:Mem}{t x' bz:T}(h:qc M t){ps:Path}(U:T.wf M x')(ae:t.cy ps x'=some bz):qc M bz:=by
 cases t with
 |leaf d v=>rw[KP ae];exact KV U
 |agg cs=>
  cases ps with
  |nil=>simp only[T.cy,aE]at ae;subst ae;exact KV U
  |cons p ps=>
   obtain⟨i,o⟩:=p;simp only[T.cy]at ae;cases i with
   |succ=>simp[T.elem]at ae
   |zero=>
    simp only[T.elem]at ae;cases an:cs[o]? with
    |none=>simp[an]at ae
    |some c=>
     simp only[an]at ae;cases ad:c.cy ps x' with
     |none=>simp[ad]at ae
     |some c'=>
      simp only[ad,T.df,aE]at ae;subst ae;exact T_ h (De ps ((T.q6 M cs).1 h c (aM an)) U ad)
 |_=>exact KV (De ps h U ae)
theorem Y_{M:Mem}{G:bK}{t x' bz:T}(h:fg M G t){ps:Path}(U:T.wf M x')(ae:t.cy ps x'=some bz):fg M G bz:=by
 cases t with
 |leaf d v=>rw[KP ae];exact Gm U
 |agg cs=>
  cases ps with
  |nil=>simp only[T.cy,aE]at ae;subst ae;exact Gm U
  |cons p ps=>
   obtain⟨i,o⟩:=p;simp only[T.cy]at ae;cases i with
   |succ=>simp[T.elem]at ae
   |zero=>
    simp only[T.elem]at ae;cases an:cs[o]? with
    |none=>simp[an]at ae
    |some c=>
     simp only[an]at ae;cases ad:c.cy ps x' with
     |none=>simp[ad]at ae
     |some c'=>
      simp only[ad,T.df,aE]at ae;subst ae;intro y aw;rcases b3 aw with aw|rfl
      .exact h y aw
      .exact Y5 (h c (aM an)) U ad
 |bt az=>
  cases ps with
  |nil=>simp only[T.cy,aE]at ae;subst ae;exact Gm U
  |cons p ps=>
   obtain⟨i,o⟩:=p;simp only[T.cy]at ae;cases i with
   |succ=>simp[T.elem]at ae
   |zero=>
    simp only[T.elem]at ae;cases an:az[o]? with
    |none=>simp[an]at ae
    |some c=>
     simp only[an]at ae;cases ad:c.cy ps x' with
     |none=>simp[ad]at ae
     |some c'=>
      simp only[ad,T.df,aE]at ae;subst ae;intro y aw;rcases b3 aw with aw|rfl
      .exact h y aw
      .exact Y7 (h c (aM an)) U ad
 |_=>exact Gm (De ps h U ae)
section
variable{n:Nat}{R:Nat->Value}{M:Mem}{F:Fr}{G:bK}{H:dD}{a:Act}{w:World}
theorem qd{G:bK}{s:Nat}{ps:Path}{x:T}(U:(bg G s).bw ps=some x):∃r,(x.blocks++r).Perm (a8 G) /\
  ∀x',x'.val=x.val->∃bz,(bg G s).cy ps x'=some bz/\bz.val=(bg G s).val/\(x'.blocks++r).Perm (a8 (dS G s bz)):=by
 obtain⟨r1,I,aa⟩:=T.focus ps U;obtain⟨r2,aB,aW⟩:=Cp G s;refine⟨r1++r2,?_,λx' av=>?_⟩
 .rw [<-aA];exact(I.append_right _).trans aB
 .obtain ⟨bz,b9,k2,gY⟩:=aa x' av;refine⟨bz,b9,k2,?_⟩;rw[<-aA];exact(gY.append_right _).trans (aW bz)
theorem Inv.setAt(h:Inv n R M F G H a w)(s:Nat)(ps:Path)(x':T):aS.setAt F s ps x'.erase=((bg G s).cy ps x').map λbz=>cf F s bz.erase:=by
 rw[aS.setAt,h.get,T.Xt ps _ x' (h.jq s)];cases(bg G s).cy ps x'<;>rfl
theorem RB{G:bK}{s:Nat}{ps:Path}{x x' bz:T}(U:(bg G s).bw ps=some x)(ae:(bg G s).cy ps x'=some bz):mU G (dS G s bz) (h8 s ps):=by
 intro bk p y aw ao;by_cases he:bk=s
 .subst he;have:pre ps p=false->∃fw,(bg (dS G bk bz) bk).bw p=some fw/\T.kB y fw:=λaf=>by
   rw[vP];exact T.DY ps U ae p y af aw ao
  constructor<;>intro ah<;>simp only[h8,beq_self_eq_true,hF]at ah
  .obtain ⟨fw,I,aa⟩:=this ah;exact⟨fw,I,T.tw aa ao,T.Bs aa⟩
  .exact this ah
 .rw [sx G bz he];exact⟨λ_=>⟨y,aw,ao,rfl⟩,λ_=>⟨y,aw,T.pR ao⟩⟩
theorem Gv{G:bK}{s:Nat}{ps:Path}{x x' bz:T}(U:(bg G s).bw ps=some x)(ae:(bg G s).cy ps x'=some bz)(pG:x.node=true->x'.node=true/\x'.val=x.val):mU G (dS G s bz) (j7 s ps):=by
 intro bk p y aw ao;by_cases he:bk=s
 .subst he;have:pre ps p=false->∃fw,(bg (dS G bk bz) bk).bw p=some fw/\T.kB y fw:=λaf=>by
   rw[vP];exact T.DY ps U ae p y af aw ao
  constructor<;>intro ah<;>simp only[j7,beq_self_eq_true,hF,Bool.false_and,Bool.not_false,Bool.and_true]at ah
  .by_cases af:pre ps p=true
   .obtain ⟨r,rfl⟩:=(wj ps p).1 af;simp only[af,hF,Bool.not_eq_false',beq_iff_eq,fB]at ah;have hr:r=[]:=List.length_eq_zero_iff.1 (by omega);subst hr;simp only[kH]at aw⊢;rw[U]at aw;cases aw;have:=T.DX ps U ae [];rw[kH]at this;rw[vP,this];exact⟨x',rfl,pG ao⟩
   .obtain ⟨fw,I,aa⟩:=this (by simpa using af);exact⟨fw,I,T.tw aa ao,T.Bs aa⟩
  .exact this ah
 .rw [sx G bz he];exact⟨λ_=>⟨y,aw,ao,rfl⟩,λ_=>⟨y,aw,T.pR ao⟩⟩
theorem Inv.path(h:Inv n R M F G H a w){M':Mem}{rv:dD}{w':World}(bW:M.le M'){s:Nat}{ps:Path}{x' bz:T}
  (ae:(bg G s).cy ps x'=some bz) (av:bz.val=(bg G s).val) (dead:Bool->Nat->Path->Bool) (aj:mU G (dS G s bz) dead) (al:x'.tidy) (hw:T.wf M' x') (hf:eg G s=some (bg G s))
  (dI:dT M' w' (a8 (dS G s bz)++rv)) (eE:fE M' w'):
  ∃aX,aS.setAt F s ps x'.erase=some aX/\Inv n R M' (jM dead aX) (qj dead (dS G s bz)) rv a w':=by
 refine⟨cf F s bz.erase,by rw[h.setAt,ae];rfl,?_⟩;have iE:fg M' G bz:=Y_ (UU bW (λ_ _ x U ao=>⟨x,U,T.pR ao⟩) (h.iJ s)) hw ae;refine h.lH bW s bz dead aj (T.XF ps (h.jq s) al ae) iE dI eE h.size h.defers ?_ (λ_ _=>rfl);have:=h.bP s _ hf;rw[av];exact this
end
end Go.aS
namespace Go.aS
open D
def j1(M:Mem)(G:bK)(c:D)(u:Value):Prop:=u.oneCell'=true/\(aJ M G c u∨(c=.own []/\u=.slice none 0 0))
def de(M:Mem)(G:bK):D->Value->Prop
 | .agg cs,v=>∃vs,v=.agg vs.toArray/\ff (j1 M G) cs vs
 | .own [],v=>v=.slice none 0 0
 |d,v=>fm M G d v
def Fits(n:Nat)(x:Operand):Prop:=∀t,x=.tmp t->t<n
theorem jY{M:Mem}{G:bK}{d:D}{v:Value}(h:fm M G d v):de M G d v:=by
 cases d with
 |agg cs=>simp[fm,aJ,bu]at h
 |own es=>simp[fm,aJ,bu]at h
 |_=>simpa only[de]using h
theorem YT{M:Mem}{t:T}(ao:t.node=true)(h:T.wf M t):t.val.oneCell'=true:=by
 cases t with
 |leaf d v=>
  rcases h with⟨rfl,h⟩|h
  .exact h
  .exact h.one
 |agg=>simp[T.node]at ao
 |bt=>simp[T.node]at ao
 |bld v bs t e l=>obtain⟨g,p,rfl,_⟩:=h;rfl
 |_=>simp[T.val,Value.oneCell']
theorem ff.get{O fc:Type}{P:O->fc->Prop}:∀{hK:List O}{bs:List fc},ff P hK bs->∀{i:Nat}{x:O},hK[i]?=some x->∃y,bs[i]?=some y/\P x y
 |_,_,.nil,i,x,h=>by simp at h
 |_,_,.cons p _,0,x,h=>by simp only[List.getElem?_cons_zero,aE]at h;subst h;exact⟨_,rfl,p⟩
 |_,_,.cons _ q,i+1,x,h=>by
  simp only[List.getElem?_cons_succ]at h⊢;exact q.get h
theorem ff.length{O fc:Type}{P:O->fc->Prop}{hK:List O}{bs:List fc}(h:ff P hK bs):hK.length=bs.length:=by
 induction h with
 |nil=>rfl
 |cons _ _ aN=>simp[aN]
theorem ff.drop{O fc:Type}{P:O->fc->Prop}{hK:List O}{bs:List fc}(h:ff P hK bs)(k:Nat):ff P (hK.drop k) (bs.drop k):=by
 induction h generalizing k with
 |nil=>simpa using ff.nil
 |cons a _ aN=>cases k with
  |zero=>exact .cons a (by simpa using aN 0)
  |succ k=>simpa using aN k
theorem ff.take{O fc:Type}{P:O->fc->Prop}{hK:List O}{bs:List fc}(h:ff P hK bs)(k:Nat):ff P (hK.take k) (bs.take k):=by
 induction h generalizing k with
 |nil=>simpa using ff.nil
 |cons a _ aN=>cases k with
  |zero=>simpa using ff.nil
  |succ k=>simpa using ff.cons a (aN k)
theorem acU{M:Mem}{G:bK}{s:Nat}{ps:Path}{c:T}(U:(bg G s).bw ps=some c)(al:c.tidy)(ad:lf M G c):j1 M G (iY s ps c.erase) c.val:=by
 cases c with
 |leaf d v=>
  refine⟨ad.2,.inl ?_⟩;have:iY s ps d=d:=by cases d<;>simp_all [T.tidy,iY]
  simpa only[T.erase,this,T.val]using ad.1
 |agg=>simp[lf,T.wf]at ad
 |bt=>simp[lf,T.wf]at ad
 |own g cap e sp es=>exact⟨rfl,.inl ⟨_,U,rfl,rfl⟩⟩
 |nil=>exact⟨rfl,.inl ⟨_,U,rfl,rfl⟩⟩
 |box g e cs=>exact⟨rfl,.inl ⟨_,U,rfl,rfl⟩⟩
 |map r fF es=>exact⟨rfl,.inl ⟨_,U,rfl,rfl⟩⟩
 |bld v0 m8 t0 gn iG=>
  have an:v0.oneCell'=true:=by obtain⟨g,p,rfl,_⟩:=ad;rfl
  exact⟨an,.inl ⟨_,U,rfl,rfl⟩⟩
theorem J3{M:Mem}{G:bK}{s:Nat}{ps:Path}{i:Nat}{x:T}{ct:List T}(U:(bg G s).bw ps=some x)(hi:x.elem i=some ct):
  ∀(Cd:List T)(o:Nat),(∀j c,Cd[j]?=some c->ct[o+j]?=some c)->(∀c∈Cd,c.tidy/\lf M G c)->ff (j1 M G) (xK s ps i o (Cd.map T.erase)) (Cd.map T.val)
 |[],_,_,_=>.nil
 |c::Cd,o,h,ad=>by
  simp only[cD,xK];obtain⟨I,aa⟩:=ad c (by simp);refine .cons (acU ?_ I aa) (J3 U hi Cd (o+1) ?_ (λc hm=>ad c (by simp[hm])))
  .rw [T.DV ps U];have:=h 0 c rfl;simp only[Nat.add_zero]at this;simp[T.bw,hi,this]
  .intro j c' aH;have:=h (j+1) c' (by simpa using aH);rw[<-this];congr 1;omega
section
variable{n:Nat}{R:Nat->Value}{M:Mem}{F:Fr}{G:bK}{H:dD}{a:Act}{w:World}
theorem QO{M:Mem}{G:bK}{s:Nat}{ps:Path}{t:T}(U:(bg G s).bw ps=some t)(al:t.tidy)(ae:fg M G t):de M G (view s ps t.erase) t.val:=by
 cases t with
 |leaf d v=>
  have:view s ps d=d:=by cases d<;>simp_all [T.tidy,view,iY]
  simp only[T.erase,this,T.val];exact jY ae
 |agg cs=>
  simp only[T.erase,view,T.val];refine⟨T.bP cs,rfl,?_⟩;rw[T.hz,T.ny];exact J3 U (i:=0) rfl cs 0 (λj c h=>by simpa using h) (λc ad=>⟨(T.o4 cs).1 al c ad,ae c ad⟩)
 |bt az=>simp[T.erase,view,de,fm,aJ]
 |own g cap e sp es=>simp only[T.erase,view,iY];exact jY (d:=.alias s ps) ⟨_,U,rfl,rfl⟩
 |nil=>simp only[T.erase,view,iY];exact jY (d:=.alias s ps) ⟨_,U,rfl,rfl⟩
 |box g e cs=>simp only[T.erase,view,iY];exact jY (d:=.alias s ps) ⟨_,U,rfl,rfl⟩
 |map r fF es=>simp only[T.erase,view,iY];exact jY (d:=.alias s ps) ⟨_,U,rfl,rfl⟩
 |bld v0 m8 t0 gn iG=>simp only[T.erase,view,iY];exact jY (d:=.alias s ps) ⟨_,U,rfl,rfl⟩
theorem Inv.eval(h:Inv n R M F G H a w){t:Nat}(al:t<n)(hf:eg G t=some (bg G t)):a.eval (.tmp t)=(bg G t).val:=by
 have:=h.bP t _ hf;rw[if_pos al]at this;simp[Act.eval,gj,this]
theorem R9{M:Mem}{G:bK}{v:Value}(h:v.oneCell'=true):j1 M G (uQ v) v:=by
 unfold uQ
 split
 .rename_i ao;refine⟨h,.inr ⟨rfl,?_⟩⟩;unfold O4 at ao
  split at ao
  .rfl
  .simp at ao
 .exact ⟨h,.inl (by simp only[aJ,bu];exact⟨trivial,h⟩)⟩
theorem aaR{M:Mem}{G:bK}{v:Value}(h:rG v=true):de M G (uR v) v:=by
 have one:∀v:Value,v.oneCell'=true->de M G (uQ v) v:=λv av=>by
  rcases R9 (M:=M) (G:=G) av with⟨_,h|⟨I,aa⟩⟩
  .unfold uQ at h⊢
   split
   .rename_i ao;simp only[ao,if_true,aJ,bu]at h
   .rename_i ao;simp only[ao,Bool.false_eq_true,if_false]at h;exact jY (by simpa only[fm]using h)
  .rw [I];exact aa
 cases v with
 |agg cs=>
  refine⟨cs.toList,rfl,?_⟩;simp only[rG,kf]at h;generalize cs.toList=l at h
  induction l with
  |nil=>exact .nil
  |cons c l aN=>exact .cons (R9 (h c (by simp))) (aN λx U=>h x (by simp[U]))
 |_=>exact one _ h
theorem Inv.aZ{E:Env}(h:Inv n R M F G H a w){x:Operand}(U:Fits n x){d:D}(ah:aS.aZ E F x=some d):de M G d (a.eval x):=by
 cases x with
 |tmp t=>
  simp only[aS.aZ,aE]at ah;subst ah;rw[h.get];rcases Cx G t with k|⟨_,k⟩
  .rw [h.eval (U t rfl) k];exact QO rfl (h.jq t) (h.iJ t)
  .rw [k];simp[fP,T.erase,view,iY,de,fm,aJ]
 |const v=>
  simp only[aS.aZ]at ah
  split at ah
  .rename_i ad;cases ah;exact aaR ad
  .cases ah
 |func f=>
  simp only[aS.aZ,aE]at ah;subst ah;exact⟨[],rfl,.nil⟩
 |global g=>simp[aS.aZ]at ah
end
end Go.aS
namespace Go.aS
open D
def dV(M:Mem):T->Prop
 | .leaf d v=>bu M d v
 | .agg cs=>T.ga M cs
 | .bt _=>False
 |t=>T.wf M t
theorem xW{M:Mem}{t:T}(h:T.wf M t)(ah:t.erase≠.undef):dV M t:=by
 cases t with
 |leaf d v=>
  rcases h with⟨rfl,_⟩|h
  .simp [T.erase]at ah
  .exact h
 |agg=>simp[T.wf]at h
 |bt=>simp[T.wf]at h
 |_=>exact h
theorem p6{M:Mem}{G:bK}{t:T}(h:dV M t):fg M G t:=by
 cases t with
 |leaf d v=>exact Df h
 |agg cs=>exact λc ad=>zV ((T.q6 M cs).1 h c ad)
 |bt=>exact h.elim
 |_=>exact h
theorem dV.mono{M M':Mem}(bW:M.le M'){t:T}(h:dV M t):dV M' t:=by
 cases t with
 |leaf d v=>exact bu.mono bW _ _ h
 |agg cs=>exact FH bW _ h
 |bt=>exact h.elim
 |_=>exact x8 bW _ h
section
variable{n:Nat}{R:Nat->Value}{M:Mem}{F aD:Fr}{G:bK}{H:dD}{a:Act}{w:World}
def hW(n:Nat)(R:Nat->Value)(M:Mem)(aD:Fr)(G:bK)(H:dD)(a:Act)(w:World)(W:T->Prop)(d:D)(v:Value):Prop:=
 ∃t bS,t.erase=d/\t.val=v/\t.tidy/\W t/\Inv n R M aD bS (t.blocks++H) a w/\Sub (a8 bS++(t.blocks++H)) (a8 G++H)
theorem hW.here(h:Inv n R M F G H a w){W:T->Prop}{t:T}(ag:t.blocks=[])(al:t.tidy)(hw:W t):hW n R M F G H a w W t.erase t.val:=
 ⟨t,G,rfl,rfl,al,hw,by rw[ag];exact h,by rw[ag];exact Sub.refl _⟩
theorem p5{s:Nat}{ps:Path}{x:T}(U:(bg G s).bw ps=some x)(ao:x.node=true):eg G s=some (bg G s):=by
 rcases Cx G s with k|⟨_,k⟩
 .exact k
 .rw [k,fP]at U;obtain⟨_,rfl⟩:=ua U;simp[T.node]at ao
theorem KR(h:Inv n R M F G H a w){s:Nat}{ps:Path}{v:Value}{d:D}(cq:aJ M G (.alias s ps) v)(al:mh F s ps=some (d,aD)):hW n R M aD G H a w (λt=>T.wf M t/\t.erase≠.undef) d v:=by
 obtain⟨x,U,ao,rfl⟩:=cq;have hw:=J6 (h.iJ s) U ao;have e6:=T.Jn ps (h.jq s) U;simp only[mh,h.b6,U,bo]at al
 split at al
 .rename_i he;obtain⟨r,dk,ea⟩:=qd U;obtain⟨bz,b_,cM,fI⟩:=ea (.leaf .undef x.val) rfl;have dI:dT M w (a8 (dS G s bz)++(x.blocks++H)):=by
   refine h.bd.perm ?_;refine(dk.symm.append_right H).trans ?_;refine cz ?_ (fI.append_right _);simp only[T.blocks,gD];rw[<-aA];exact a6 _ ba
  obtain⟨aX,b9,k2⟩:=h.path (Mem.le_refl M) b_ cM (h8 s ps) (RB U b_) (by simp[T.tidy]) (.inl ⟨rfl,YT ao hw⟩) (p5 U ao) dI h.mem;simp only[T.erase]at b9;rw[b9]at al;cases al;refine⟨x,_,rfl,rfl,e6,⟨hw,?_⟩,k2,?_⟩
  .intro hu;rw[hu]at he;simp[D.dC]at he
  .rw [p4];refine Sub.xt ?_;refine(fI.symm.append_right _).trans ?_;refine cz ?_ (dk.append_right H);simp only[T.blocks,gD];rw[<-aA];exact a6 _ ba
 .rename_i he;cases x with
  |leaf d0 v0=>
   simp only[T.erase]at al;cases d0<;>simp[T.node]at ao<;>simp only[aE,aQ]at al<;>obtain⟨rfl,rfl⟩:=al
   .exact hW.here h (t:=.leaf (.sl _) v0) (by simp[T.blocks]) e6 ⟨hw,by simp[T.erase]⟩
   .exact hW.here h (t:=.leaf (.ref _) v0) (by simp[T.blocks]) e6 ⟨hw,by simp[T.erase]⟩
  |own=>simp[T.erase,D.dC]at he
  |nil=>simp[T.erase,D.dC]at he
  |box=>simp[T.erase,D.dC]at he
  |map=>simp[T.erase,D.dC]at he
  |bld=>simp[T.erase,D.dC]at he
  |agg=>simp[T.node]at ao
  |bt=>simp[T.node]at ao
theorem At.part{M:Mem}{g b:Nat}{vs:List Value}(h:At M g b vs)(j k:Nat):At M g (b+j) ((vs.drop j).take k):=by
 obtain⟨cs,e,fr,I,aa⟩:=h;refine⟨cs,e,fr,I,λi u hu=>?_⟩;have hi:i<k:=by
  by_cases hi:i<k
  .exact hi
  .rw [List.getElem?_take,if_neg hi]at hu;cases hu
 rw[List.getElem?_take_of_lt hi,List.getElem?_drop]at hu;have:=aa (j+i) u hu;rw[<-this];congr 1;omega
theorem c4.length{M:Mem}:∀{cs:List D}{vs:List Value},c4 M cs vs->vs.length=cs.length
 |[],vs,h=>by simp only[c4]at h;subst h;rfl
 |c::cs,vs,h=>by simp only[c4]at h;obtain⟨v,k9,rfl,_,aa⟩:=h;simp[aa.length]
theorem fo.drop{M:Mem}{k:Nat}:∀{es:List (List D)}{vs:List Value},fo M es vs->(∀e∈es,e.length=k)->∀j,fo M (es.drop j) (vs.drop (j*k))
 |es,vs,h,_,0=>by simpa using h
 |[],vs,h,_,j+1=>by simp only[fo]at h;subst h;simp[fo]
 |e::es,vs,h,aj,j+1=>by
  simp only[fo]at h;obtain⟨v1,v2,rfl,I,aa⟩:=h;have hl:v1.length=k:=by rw[I.length];exact aj e (by simp)
  have:=fo.drop aa (λx U=>aj x (by simp[U])) j;simp only[List.drop_succ_cons];have he:(j+1)*k=v1.length+j*k:=by rw[hl,ie];omega
  rw[he,<-List.drop_drop,List.drop_left];exact this
theorem fo.take{M:Mem}{k:Nat}:∀{es:List (List D)}{vs:List Value},fo M es vs->(∀e∈es,e.length=k)->∀j,fo M (es.take j) (vs.take (j*k))
 |es,vs,h,_,0=>by simp[fo]
 |[],vs,h,_,j+1=>by simp only[fo]at h;subst h;simp[fo]
 |e::es,vs,h,aj,j+1=>by
  simp only[fo]at h;obtain⟨v1,v2,rfl,I,aa⟩:=h;have hl:v1.length=k:=by rw[I.length];exact aj e (by simp)
  have:=fo.take aa (λx U=>aj x (by simp[U])) j;simp only[hQ,fo];have he:(j+1)*k=v1.length+j*k:=by rw[hl,ie];omega
  refine⟨v1,v2.take (j*k),?_,I,this⟩;rw[he,List.take_length_add_append]
theorem Addr.add_plain(g b k:Nat):(⟨g,b,none⟩:Addr).add k=⟨g,b+k,none⟩:=by
 unfold Addr.add
 split
 .rename_i h;subst h;rfl
 .rfl
theorem Dg{es:List (List D)}{vx v:Value}{off len:Nat}(hr:bu M (.sl es) vx)(ae:wA (.leaf (.sl es) vx) off len v):bu M (.sl ((es.drop off).take len)) v:=by
 obtain⟨A,m,c,k,es',A',I,aa,aB,aW,bO,c7,rfl,dL⟩:=ae;simp only[T.erase,reduceCtorEq,D.sl.injEq,false_or]at aa;subst aa;simp only[T.val]at I;subst I;simp only[bu]at hr⊢;obtain⟨alU,xr,wU,gn,aT,a5,ez,eK⟩:=hr;simp only[Value.slice.injEq]at gn;obtain⟨rfl,rfl,rfl⟩:=gn;refine⟨A',len,c-off,rfl,?_,by omega,by omega,?_⟩
 .rw [du,jr];omega
 .by_cases aG:len=0
  .left;simp[aG]
  right;rcases eK with eK|⟨g,b,EN,vs,rfl,c2,jJ,hw,cQ⟩
  .subst eK;simp at aB;omega
  have aj:EN=k:=by
   cases es with
   |nil=>simp at aB;omega
   |cons e es=>rw[<-hw e (by simp),aW e (by simp)]
  subst aj;rcases dL with dL|dL
  .refine ⟨g,b+off*EN,EN,(vs.drop (off*EN)).take (len*EN),?_,c2.part _ _,jJ,?_,?_⟩
   .rw [dL];simp[Addr.add_plain]
   .intro x U;exact hw x (cA (cT U))
   .exact (cQ.drop hw off).take (λx U=>hw x (cA U)) len
  .omega
theorem Yp(es:List (List T))(k:Nat):T.bH (es.take k)++T.bH (es.drop k)=T.bH es:=by
 rw[<-T.tP,hb]
theorem JX{M:Mem}:∀{cs:List T},T.ga M cs->∀u∈T.bP cs,u.oneCell'=true
 |[],_,u,hu=>by simp[T.bP]at hu
 |c::cs,h,u,hu=>by
  simp only[T.ga]at h;simp only[T.bP,List.mem_cons]at hu;rcases hu with rfl|hu
  .exact (zV (G:=[]) h.1 |> λad=>by
    cases c with
    |leaf d v=>exact ad.2
    |agg=>simp[T.wf]at h
    |bt=>simp[T.wf]at h
    |bld=>obtain⟨g,p,rfl,_⟩:=h.1;rfl
    |_=>rfl)
  .exact JX h.2 u hu
theorem tT{M:Mem}:∀{es:List (List T)},T.ha M es->∀u∈T.bH es,u.oneCell'=true
 |[],_,u,hu=>by simp[T.bH]at hu
 |e::es,h,u,hu=>by
  simp only[T.ha]at h;simp only[T.bH,fR]at hu;rcases hu with hu|hu
  .exact JX h.1 u hu
  .exact tT h.2 u hu
theorem kg{k:Nat}:∀{es:List (List T)},(∀x∈es,x.length=k)->(T.bH es).length=es.length*k
 |[],_=>by simp[T.bH]
 |e::es,h=>by
  simp only[T.bH,fB,T.XJ,List.length_cons,ie];rw[h e (by simp),kg (λx U=>h x (by simp[U]))];omega
theorem agj{O:Type}(r y H z:List O):((r++(y++H))++z).Perm (((y++z)++r)++H):=by
 refine List.perm_append_comm.trans ?_;simp only[aA];refine(b5 z (bB r y H)).trans ?_;exact bB z y (r++H)
theorem R0{M:Mem}{x:T}{off len:Nat}{v:Value}(h:wA x off len v)(hl:len=0):bu M (.sl []) v:=by
 obtain⟨A,n,c,k,es,A',I,aa,aB,aW,bO,c7,rfl,dL⟩:=h;subst hl;simp only[bu];exact⟨A',0,c-off,rfl,rfl,Nat.zero_le _,by simp[maxLen],.inl trivial⟩
theorem Kp(h:Inv n R M F G H a w){s:Nat}{ps:Path}{off len:Nat}{v:Value}{d:D}(cq:aJ M G (.sub s ps off len) v)(al:zy F s ps off len=some (d,aD)):hW n R M aD G H a w (λt=>T.wf M t/\t.erase≠.undef) d v:=by
 obtain⟨x,U,ao,cR⟩:=cq;have hw:=J6 (h.iJ s) U ao;have e6:=T.Jn ps (h.jq s) U;simp only[zy,h.b6,U,bo]at al;cases x with
 |leaf d0 v0=>
  cases d0<;>simp[T.node]at ao<;>simp only[T.erase]at al
  .split at al
   .simp only[aE,aQ]at al;obtain⟨rfl,rfl⟩:=al;rcases hw with⟨hu,_⟩|hr
    .cases hu
    .have:=Dg hr cR;exact hW.here h (t:=.leaf _ v) (by simp[T.blocks]) (by simp[T.tidy]) ⟨.inr this,by simp[T.erase]⟩
   .cases al
  .cases al
 |own g cap e sp es=>
  simp only[T.erase,T.ahi]at al
  split at al
  .rename_i ad;simp only[aE,aQ]at al;obtain⟨rfl,rfl⟩:=al;exact hW.here h (t:=.leaf _ v) (by simp[T.blocks]) (by simp[T.tidy]) ⟨.inr (R0 cR ad),by simp[T.erase]⟩
  split at al
  .rename_i amo ad;obtain⟨rfl,hlen⟩:=ad;obtain⟨r,dk,ea⟩:=qd U;obtain⟨bz,b_,cM,fI⟩:=ea (.leaf .undef (T.own g cap e sp es).val) rfl;obtain⟨A,m,c,k,es',A',I,aa,aB,aW,bO,c7,rfl,dL⟩:=cR;simp only[T.val,Value.slice.injEq]at I;obtain⟨rfl,rfl,rfl⟩:=I;have c2:A'=some ⟨g,0,none⟩:=by
    rcases dL with dL|dL
    .rw [dL];simp[Addr.add_plain]
    .omega
   subst c2;obtain⟨⟨qV,jJ,hC,jz⟩,w2,hp,oh,k_⟩:=hw
   let y:T:=.own g cap e (T.bH (es.drop len)++sp) (es.take len)
   have ako:y.blocks=(g,.cells (T.bH es++sp).toArray e (0,0))::T.cO (es.take len):=by
    simp only[y,T.blocks];rw[<-aA,Yp]
   have ajP:(y.blocks++T.cO (es.drop len)).Perm (T.own g cap e sp es).blocks:=by
    rw[ako];simp only[T.blocks,dn];rw[<-T.sX,hb]
   have fZ:((a8 (dS G s bz)++(y.blocks++H))++T.cO (es.drop len)).Perm (a8 G++H):=by
    refine cz ?_ (dk.append_right H);refine cz ?_ ((ajP.append_right r).append_right H);refine(((fI.symm.trans (by simp[T.blocks])).append_right _).append_right _).trans (?_:((r++(y.blocks++H))++T.cO (es.drop len)).Perm _);exact agj r y.blocks H _
   have dI:dT M w (a8 (dS G s bz)++(y.blocks++H)):=h.bd.xG fZ;obtain⟨aX,b9,k2⟩:=h.path (Mem.le_refl M) b_ cM (h8 s ps) (RB U b_) (by simp[T.tidy]) (.inl ⟨rfl,rfl⟩) (p5 U rfl) dI h.mem;simp only[T.erase]at b9;rw[b9]at al;simp only[aE,aQ]at al;obtain⟨rfl,rfl⟩:=al;refine⟨y,_,?_,?_,?_,⟨?_,by simp[y,T.erase]⟩,k2,?_⟩
   .simp [y,T.erase,T.lU,List.map_take]
   .simp only[y,T.val,du,Nat.sub_zero];congr 1;omega
   .simp only[y,T.tidy,T.q4]at e6⊢;intro z aG;exact e6 z (cT aG)
   .simp only[y,T.wf];refine⟨⟨qV,jJ,λz aG=>hC z (cT aG),?_⟩,by rw[du];omega,hp,?_,?_⟩
    .rw [fB,kg (λz aG=>hC z (cA aG)),jr,du,<-jz];have:es.length=(es.length-len)+min len es.length:=by omega
     conv=>rhs;rw[this,Nat.add_mul]
     omega
    .intro u hu;rcases fR.1 hu with hu|hu
     .refine tT (M:=M) ?_ u hu;rw[T.mR]at k_⊢;intro z aG;exact k_ z (cA aG)
     .exact oh u hu
    .rw [T.mR]at k_⊢;intro z aG;exact k_ z (cT aG)
   .rw [p4];exact λg ak=>Sub.xt fZ g (by rw[eb];exact hP _ ak)
  .cases al
 |nil=>
  simp only[T.erase,List.length_nil,Nat.le_zero_eq]at al
  split at al
  .rename_i ad;simp only[aE,aQ]at al;obtain⟨rfl,rfl⟩:=al;exact hW.here h (t:=.leaf _ v) (by simp[T.blocks]) (by simp[T.tidy]) ⟨.inr (R0 cR ad),by simp[T.erase]⟩
  .rename_i ad;rw[if_neg (by omega)]at al;cases al
 |box=>cases al
 |map=>cases al
 |bld=>cases al
 |agg=>simp[T.node]at ao
 |bt=>simp[T.node]at ao
end
end Go.aS
namespace Go.aS
open D
section
variable{n:Nat}{R:Nat->Value}{M:Mem}{F aD:Fr}{G:bK}{H:dD}{a:Act}{w:World}
theorem hW.imp{W sU:T->Prop}{d:D}{v:Value}(h:hW n R M aD G H a w W d v)(k:∀t,T.tidy t->W t->sU t):hW n R M aD G H a w sU d v:=by
 obtain⟨t,bS,I,aa,aB,aW,bO⟩:=h;exact⟨t,bS,I,aa,aB,k t aB aW,bO⟩
theorem ZC(h:Inv n R M F G H a w){c d:D}{u:Value}(ad:aJ M G c u)(an:u.oneCell'=true)(al:kb F c=some (d,aD)):hW n R M aD G H a w (λt=>T.wf M t) d u:=by
 cases c with
 |alias s ps=>exact(KR h ad al).imp λ_ _ k=>k.1
 |sub s ps x y=>exact(Kp h ad al).imp λ_ _ k=>k.1
 |undef=>simp only[kb,aE,aQ]at al;obtain⟨rfl,rfl⟩:=al;exact hW.here h (t:=.leaf .undef u) (by simp[T.blocks]) (by simp[T.tidy]) (.inl ⟨rfl,an⟩)
 |lit x=>simp only[kb,aE,aQ]at al;obtain⟨rfl,rfl⟩:=al;exact hW.here h (t:=.leaf (.lit x) u) (by simp[T.blocks]) (by simp[T.tidy]) (.inr ad)
 |sl x=>simp only[kb,aE,aQ]at al;obtain⟨rfl,rfl⟩:=al;exact hW.here h (t:=.leaf (.sl x) u) (by simp[T.blocks]) (by simp[T.tidy]) (.inr ad)
 |ref x=>simp only[kb,aE,aQ]at al;obtain⟨rfl,rfl⟩:=al;exact hW.here h (t:=.leaf (.ref x) u) (by simp[T.blocks]) (by simp[T.tidy]) (.inr ad)
 |fn f x=>simp only[kb,aE,aQ]at al;obtain⟨rfl,rfl⟩:=al;exact hW.here h (t:=.leaf (.fn f x) u) (by simp[T.blocks]) (by simp[T.tidy]) (.inr ad)
 |own=>simp[kb]at al
 |box=>simp[kb]at al
 |map=>simp[kb]at al
 |bld=>simp[kb]at al
 |agg=>simp[kb]at al
 |bt=>simp[kb]at al
 |place=>simp[kb]at al
def holds(n:Nat)(R:Nat->Value)(a:Act)(t:Nat)(v:Value):Prop:=if t<n then a.tmps[t]?=some v else R t=v
theorem Inv.holds(h:Inv n R M F G H a w){t:Nat}(hf:eg G t=some (bg G t)):holds n R a t (bg G t).val:=h.bP t _ hf
theorem holds.eq{t:Nat}{v gN:Value}(h:aS.holds n R a t v)(k:aS.holds n R a t gN):v=gN:=by
 unfold aS.holds at h k
 split at h
 .rename_i al;rw[if_pos al]at k;rw[h]at k;exact Option.some.inj k
 .rename_i al;rw[if_neg al]at k;rw[<-h,<-k]
theorem Sc{t:T}(al:t.tidy){cs:List D}(h:t.erase=.agg cs):∃ts,t=.agg ts/\ts.map T.erase=cs:=by
 cases t with
 |leaf d v=>simp only[T.erase]at h;subst h;simp[T.tidy]at al
 |agg ts=>simp only[T.erase,D.agg.injEq]at h;exact⟨ts,rfl,by rw[<-T.hz];exact h⟩
 |_=>simp[T.erase]at h
theorem tV{G:bK}{t:Nat}(h:bg G t≠fP):eg G t=some (bg G t):=by
 rcases Cx G t with k|⟨_,k⟩
 .exact k
 .exact absurd k h
theorem QM:∀(k o:Nat){F:Fr}{G:bK}{H:dD}{aD:Fr}{az:List D}{vs:List Value},Inv n R M F G H a w->∀{t:Nat},holds n R a t (.agg vs.toArray)->tL F t o k=some (az,aD) ->
  ∃ts bS,ts.map T.erase=az/\T.bP ts=(vs.drop o).take k/\T.ho ts/\T.ga M ts/\Inv n R M aD bS (T.bq ts++H) a w/\Sub (a8 bS++(T.bq ts++H)) (a8 G++H)
 |0,o,F,G,H,aD,az,vs,h,t,aU,al=>by
  simp only[tL,aE,aQ]at al;obtain⟨rfl,rfl⟩:=al;exact⟨[],G,rfl,by simp[T.bP],by simp[T.ho],by simp[T.ga],by simpa[T.bq]using h,by simpa[T.bq]using Sub.refl _⟩
 |k+1,o,F,G,H,aD,az,vs,h,t,aU,al=>by
  simp only[tL]at al;cases ak:aS.get F t with
  |agg cs=>
   simp only[ak]at al;cases ad:cs[o]? with
   |none=>simp[ad]at al
   |some c=>
    simp only[ad]at al;cases aj:kb F c with
    |none=>simp[aj]at al
    |some r=>
     obtain⟨c',aX⟩:=r;simp only[aj]at al;cases hr:tL aX t (o+1) k with
     |none=>simp[hr]at al
     |some r2=>
      obtain⟨b8,bN⟩:=r2;simp only[hr,aE,aQ]at al;obtain⟨rfl,rfl⟩:=al;rw[h.get]at ak;obtain⟨ts,aT,a5⟩:=Sc (h.jq t) ak;have hf:eg G t=some (bg G t):=tV (by rw[aT,fP];simp);have av:=(h.holds hf).eq aU;rw[aT]at av;simp only[T.val,Value.agg.injEq]at av;have av:T.bP ts=vs:=by simpa using congrArg Array.toList av
      have rY:=h.iJ t;have aj_:=h.jq t;rw[aT]at rY aj_;rw[<-a5,cc]at ad;cases oR:ts[o]? with
      |none=>simp[oR]at ad
      |some t0=>
       simp only[oR,bo,aE]at ad;have hu:vs[o]?=some t0.val:=by rw[<-av,T.ny,cc,oR];rfl
       have n5:=rY t0 (aM oR);have cq:aJ M G c t0.val/\t0.val.oneCell'=true:=by
        subst ad;cases t0 with
        |leaf d v=>exact⟨by simpa only[T.erase,T.val]using n5.1,n5.2⟩
        |agg=>simp[lf,T.wf]at n5
        |bt=>simp[lf,T.wf]at n5
        |own=>simp[T.erase,kb]at aj
        |nil=>simp[T.erase,kb]at aj
        |box=>simp[T.erase,kb]at aj
        |map=>simp[T.erase,kb]at aj
        |bld=>simp[T.erase,kb]at aj
       obtain⟨t1,bQ,cb,cK,cS,dh,dr,gi⟩:=ZC h cq.1 cq.2 aj;obtain⟨gM,cr,cF,ck,dG,fh,e0,nV⟩:=QM k (o+1) dr aU hr;refine⟨t1::gM,cr,by simp[cb,cF],?_,⟨cS,dG⟩,⟨dh,fh⟩,?_,?_⟩
       .simp only[T.bP,cK,ck];obtain⟨bU,he⟩:=bL.1 hu;rw[<-he,<-hQ,List.getElem_cons_drop]
       .refine { e0 with bd:=?_ };refine e0.bd.perm (b5 _ ?_);simp only[T.bq,aA];exact bB _ _ _
       .refine Sub.trans (Sub.xt ?_) (nV.trans gi);refine b5 _ ?_;simp only[T.bq,aA];exact bB _ _ _
  |_=>simp[ak]at al
theorem J5{M:Mem}{G:bK}:∀{cs:List D}{vs:List Value},ff (aJ M G) cs vs->cs.any uK=false->c4 M cs vs
 |_,_,.nil,_=>by simp[c4]
 |_,_,.cons (a:=c) (hK:=cs) p q,h=>by
  simp only[List.any_cons,Bool.or_eq_false_iff]at h;simp only[c4];refine⟨_,_,rfl,?_,J5 q h.2⟩;have I:=h.1;cases c with
  |alias=>simp[uK]at I
  |sub=>simp[uK]at I
  |place=>simp[uK]at I
  |undef=>simp[uK]at I
  |_=>exact p
theorem CP(h:Inv n R M F G H a w){t:Nat}{W:T->Prop}(hf:eg G t=some (bg G t))(hw:W (bg G t)):
  hW n R M (kill (cf F t .undef) t []) G H a w W (bg G t).erase (bg G t).val:=by
 obtain⟨r,b_,cM⟩:=Cp G t
 let u:T:=.leaf .undef (bg G t).val
 have fZ:(a8 (dS G t u)++((bg G t).blocks++H)).Perm (a8 G++H):=by
  refine((cM u).symm.append_right _).trans ?_;refine cz ?_ (b_.append_right H);simp only[u,T.blocks,gD,aA];exact bB _ _ _
 have:=h.lH (Mem.le_refl M) t u (h8 t []) (Tr G t u) (by simp[u,T.tidy]) (by simp[u,fg,fm,aJ]) (h.bd.perm fZ.symm) h.mem h.size h.defers (show if t<n then a.tmps[t]?=some (bg G t).val else R t=(bg G t).val from h.bP t _ hf) (λ_ _=>rfl);exact⟨bg G t,_,rfl,rfl,h.jq t,hw,this,by rw[p4];exact Sub.xt fZ⟩
theorem Y8{t:T}{M:Mem}{G:bK}(h:fg M G t){d:D}{v:Value}(e:t=.leaf d v):fm M G d v:=by subst e;exact h
theorem xN{t:T}{d:D}(h:t.erase=d)(I:d.dC=false)(aa:∀cs,d≠.agg cs)(aB:∀cs,d≠.bt cs):t=.leaf d t.val:=by
 cases t with
 |leaf bf v=>simp only[T.erase]at h;subst h;rfl
 |agg=>exact absurd h.symm (aa _)
 |bt=>exact absurd h.symm (aB _)
 |_=>subst h;simp[T.erase,D.dC]at I
theorem ZD(h:Inv n R M F G H a w){t:Nat}{v:Value}{d:D}(aU:holds n R a t v)(al:e9 F t (aS.get F t)=some (d,aD)):hW n R M aD G H a w (dV M) d v:=by
 have cm:=h.iJ t;have e6:=h.jq t;have key:bg G t≠fP->eg G t=some (bg G t)/\(bg G t).val=v:=λcI=>
  ⟨tV cI,(h.holds (tV cI)).eq aU⟩
 have Br:∀bf,aS.get F t=bf->bf.dC=false->(∀cs,bf≠.agg cs)->(∀cs,bf≠.bt cs)->bf≠.undef->bg G t=.leaf bf v/\fm M G bf v:=λbf he I aa aB aW=>by
  rw[h.get]at he;have e:=xN he I aa aB;have cI:bg G t≠fP:=by rw[e,fP];intro aU;injection aU with aU;exact aW aU
  rw[(key cI).2]at e;exact⟨e,Y8 cm e⟩
 have whole:∀bf,aS.get F t=bf->bf.dC=true->some (bf,kill (cf F t .undef) t [])=some (d,aD)->hW n R M aD G H a w (dV M) d v:=λbf he I aa=>by
  simp only[aE,aQ]at aa;obtain⟨rfl,rfl⟩:=aa;rw[h.get]at he;have cI:bg G t≠fP:=by intro aG;rw[aG]at he;simp[fP,T.erase]at he;subst he;simp[D.dC]at I
  obtain⟨hf,av⟩:=key cI;have:=CP h (W:=dV M) hf (by
   cases pN:bg G t with
   |leaf d0 v0=>rw[pN]at e6 he;simp only[T.erase]at he;subst he;cases d0<;>simp_all [T.tidy,D.dC]
   |agg=>rw[pN]at he;simp[T.erase]at he;subst he;simp[D.dC]at I
   |bt=>rw[pN]at he;simp[T.erase]at he;subst he;simp[D.dC]at I
   |_=>rw[pN]at cm;exact cm)
  rw[he,av]at this;exact this
 cases ak:aS.get F t with
 |agg cs=>
  rw[ak]at al;simp only[e9]at al;have hL:=ak;rw[h.get]at hL;obtain⟨ts,aT,a5⟩:=Sc e6 hL;have cI:bg G t≠fP:=by rw[aT,fP];simp
  obtain⟨hf,av⟩:=key cI
  split at al
  .split at al
   .cases al
   .rename_i af;simp only[aE,aQ]at al;obtain⟨rfl,rfl⟩:=al;have:=CP h (W:=dV M) hf (by
     rw[aT]at cm⊢;rw[dV,T.q6];intro c ad;have n5:=cm c ad;have Iu:(T.erase c).tz=false:=by
      have:=af;simp only[List.any_eq_true,not_exists,not_and,Bool.not_eq_true]at this;exact this _ (by rw[<-a5];exact cu.2 ⟨c,ad,rfl⟩)
     cases c with
     |leaf d0 v0=>
      simp only[T.erase]at Iu;obtain⟨b9,k2⟩:=n5;cases d0 with
      |undef=>exact .inl ⟨rfl,k2⟩
      |alias=>simp[D.tz]at Iu
      |sub=>simp[D.tz]at Iu
      |place=>simp[D.tz]at Iu
      |_=>exact .inr b9
     |_=>exact n5)
    rw[hL,av]at this;exact this
  .cases aj:tL F t 0 cs.length with
   |none=>simp[aj]at al
   |some r=>
    obtain⟨b8,aX⟩:=r;simp only[aj,aE,aQ]at al;obtain⟨rfl,rfl⟩:=al;have WS:v=.agg (T.bP ts).toArray:=by rw[<-av,aT];simp[T.val]
    rw[WS]at aU;obtain⟨gM,bS,cF,ck,dG,fh,e0,nV⟩:=QM _ _ h aU aj;refine⟨.agg gM,bS,by simp[T.erase,T.hz,cF],?_,dG,fh,by simpa[T.blocks]using e0,by simpa[T.blocks]using nV⟩;have hl:cs.length=(T.bP ts).length:=by rw[<-a5];simp
    simp only[T.val,ck,WS,List.drop_zero,hl,List.take_length]
 |fn f cs=>
  obtain⟨e,hl⟩:=Br _ ak rfl (by simp) (by simp) (by simp);rw[ak]at al;simp only[e9]at al
  split at al
  .cases al
  .rename_i ag;simp only[aE,aQ]at al;obtain⟨rfl,rfl⟩:=al;obtain⟨vs,I,aa⟩:=hl;exact hW.here h (t:=.leaf (.fn f cs) v) (by simp[T.blocks]) (by simp[T.tidy]) (show bu M _ v by simp only[bu];exact⟨vs,I,J5 aa (by simpa using ag)⟩)
 |own es=>exact whole _ ak rfl (by rw[ak]at al;simpa[e9]using al)
 |box es=>exact whole _ ak rfl (by rw[ak]at al;simpa[e9]using al)
 |map es=>exact whole _ ak rfl (by rw[ak]at al;simpa[e9]using al)
 |bld t0 gn iG=>exact whole _ ak rfl (by rw[ak]at al;simpa[e9]using al)
 |alias s ps=>
  obtain⟨e,hl⟩:=Br _ ak rfl (by simp) (by simp) (by simp);rw[ak]at al;exact(KR h hl al).imp λt _ k=>xW k.1 k.2
 |sub s ps x y=>
  obtain⟨e,hl⟩:=Br _ ak rfl (by simp) (by simp) (by simp);rw[ak]at al;exact(Kp h hl al).imp λt _ k=>xW k.1 k.2
 |lit x=>
  obtain⟨e,hl⟩:=Br _ ak rfl (by simp) (by simp) (by simp);rw[ak]at al;simp only[e9,aE,aQ]at al;obtain⟨rfl,rfl⟩:=al;exact hW.here h (t:=.leaf (.lit x) v) (by simp[T.blocks]) (by simp[T.tidy]) hl
 |sl x=>
  obtain⟨e,hl⟩:=Br _ ak rfl (by simp) (by simp) (by simp);rw[ak]at al;simp only[e9,aE,aQ]at al;obtain⟨rfl,rfl⟩:=al;exact hW.here h (t:=.leaf (.sl x) v) (by simp[T.blocks]) (by simp[T.tidy]) hl
 |ref x=>
  obtain⟨e,hl⟩:=Br _ ak rfl (by simp) (by simp) (by simp);rw[ak]at al;simp only[e9,aE,aQ]at al;obtain⟨rfl,rfl⟩:=al;exact hW.here h (t:=.leaf (.ref x) v) (by simp[T.blocks]) (by simp[T.tidy]) hl
 |undef=>rw[ak]at al;simp[e9]at al
 |place=>rw[ak]at al;simp[e9]at al
 |bt=>rw[ak]at al;simp[e9]at al
theorem Uj{M:Mem}{v:Value}(h:rG v=true):∃t:T,t.erase=uR v/\t.val=v/\t.tidy/\dV M t/\t.blocks=[]:=by
 have one:∀v:Value,v.oneCell'=true->∃t:T,t.erase=uQ v/\t.val=v/\t.tidy/\T.wf M t/\dV M t/\t.blocks=[]:=λv av=>by
  unfold uQ
  split
  .rename_i ao;have:v=.slice none 0 0:=by
    unfold O4 at ao
    split at ao
    .rfl
    .simp at ao
   subst this;exact⟨.nil,by simp[T.erase],by simp[T.val],by simp[T.tidy],by simp[T.wf],by simp[dV,T.wf],by simp[T.blocks]⟩
  .exact ⟨.leaf (.lit v) v,by simp[T.erase],by simp[T.val],by simp[T.tidy],.inr (by simp only[bu];exact⟨trivial,av⟩),(by simp only[dV,bu];exact⟨trivial,av⟩),by simp[T.blocks]⟩
 cases v with
 |agg cs=>
  simp only[rG,kf]at h;have:∀l:List Value,(∀x∈l,x.oneCell'=true)->∃ts:List T,ts.map T.erase=l.map uQ/\T.bP ts=l/\T.ho ts/\T.ga M ts/\T.bq ts=[]:=by
   intro l
   induction l with
   |nil=>intro _;exact⟨[],rfl,rfl,trivial,trivial,by simp[T.bq]⟩
   |cons c l aN=>
    intro hl;obtain⟨t,a2,bA,a3,a4,_,cj⟩:=one c (hl c (by simp));obtain⟨ts,cb,cK,cS,dh,dr⟩:=aN λx U=>hl x (by simp[U]);exact⟨t::ts,by simp[a2,cb],by simp[T.bP,bA,cK],⟨a3,cS⟩,⟨a4,dh⟩,by simp[T.bq,cj,dr]⟩
  obtain⟨ts,cb,cK,cS,dh,dr⟩:=this cs.toList h;exact⟨.agg ts,by simp[T.erase,T.hz,cb,uR],by simp[T.val,cK],cS,dh,by simp[T.blocks,dr]⟩
 |_=>
  simp only[rG]at h;obtain⟨t,a2,bA,a3,_,a4,cj⟩:=one _ h;exact⟨t,a2,bA,a3,a4,cj⟩
theorem Inv.ahm(h:Inv n R M F G H a w){t:Nat}(al:t<n):aS.holds n R a t (a.eval (.tmp t)):=by
 unfold aS.holds;rw[if_pos al];have:t<a.tmps.size:=by rw[h.size];exact al
 simp[Act.eval,gj,Array.getElem?_eq_getElem this]
theorem vU{E:Env}(h:Inv n R M F G H a w){x:Operand}(U:Fits n x){d:D}(al:c9 E F x=some (d,aD)):hW n R M aD G H a w (dV M) d (a.eval x):=by
 cases x with
 |tmp t=>exact ZD h (h.ahm (U t rfl)) al
 |const v=>
  simp only[c9]at al
  split at al
  .rename_i ad;simp only[aE,aQ]at al;obtain⟨rfl,rfl⟩:=al;obtain⟨t,a2,bA,a3,a4,cj⟩:=Uj (M:=M) ad;have:=hW.here h (W:=dV M) cj a3 a4;rw[a2,bA]at this;exact this
  .cases al
 |func f=>
  simp only[c9,aE,aQ]at al;obtain⟨rfl,rfl⟩:=al;exact hW.here h (t:=.leaf (.fn f []) (.func (.func f) #[] #[])) (by simp[T.blocks]) (by simp[T.tidy]) (show bu M _ _ by simp only[bu];exact⟨[],rfl,by simp[c4]⟩)
 |global g=>simp[c9]at al
theorem Alt{E:Env}:∀(ps:List (Nat×Operand)){F:Fr}{G:bK}{H:dD}{aD:Fr}{az:List (Nat×D)},Inv n R M F G H a w->(∀p∈ps,Fits n p.2)->iL E F ps=some (az,aD) ->
  ∃(ts:List (Nat×T))(bS:bK),ts.map (λx=>(x.1,x.2.erase))=az/\ts.map (λx=>(x.1,x.2.val))=ps.map (λp=>(p.1,a.eval p.2))/\(∀x∈ts,x.2.tidy/\dV M x.2)/\Inv n R M aD bS (T.bq (ts.map Prod.snd)++H) a w/\Sub (a8 bS++(T.bq (ts.map Prod.snd)++H)) (a8 G++H)
 |[],F,G,H,aD,az,h,_,al=>by
  simp only[iL,aE,aQ]at al;obtain⟨rfl,rfl⟩:=al;exact⟨[],G,rfl,rfl,by simp,by simpa[T.bq]using h,by simpa[T.bq]using Sub.refl _⟩
 |(i,x)::ps,F,G,H,aD,az,h,af,al=>by
  simp only[iL]at al;cases aj:c9 E F x with
  |none=>simp[aj]at al
  |some r=>
   obtain⟨d,aX⟩:=r;simp only[aj]at al;cases hr:iL E aX ps with
   |none=>simp[hr]at al
   |some r2=>
    obtain⟨m9,bN⟩:=r2;simp only[hr,aE,aQ]at al;obtain⟨rfl,rfl⟩:=al;obtain⟨t1,bQ,cb,cK,cS,dh,dr,gi⟩:=vU h (af (i,x) (by simp)) aj;obtain⟨ts,cr,cF,ck,dG,fh,e0⟩:=Alt ps dr (λp fy=>af p (by simp[fy])) hr;refine⟨(i,t1)::ts,cr,by simp[cb,cF],by simp[cK,ck],?_,?_,?_⟩
    .intro y aw;rcases List.mem_cons.1 aw with rfl|aw
     .exact ⟨cS,dh⟩
     .exact dG y aw
    .refine { fh with bd:=?_ };refine fh.bd.perm (b5 _ ?_);simp only[cD,T.bq,aA];exact bB _ _ _
    .refine Sub.trans (Sub.xt ?_) (e0.trans gi);refine b5 _ ?_;simp only[cD,T.bq,aA];exact bB _ _ _
end
end Go.aS
